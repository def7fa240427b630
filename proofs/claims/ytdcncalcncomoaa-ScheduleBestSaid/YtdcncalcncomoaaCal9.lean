/- The calendar's Close. -/
import Derived.Test.YtdcncalcncomoaaCal8
namespace Go.Proofs.Ytdcncalcncomoaa
open Go.RowKit Go.Sort
set_option linter.unusedVariables false
attribute [local go_sem ↓] Go.wp_at_zero Go.wp_at_succ

def CloseR (P : Int) (S D : List (Int × Int)) (a b err P' : Int) (S' D' : List (Int × Int)) : Prop :=
  ((validB P S D && checkB a b) = false ∧ err = errI (validB P S D) (checkB a b) ∧ P' = 0 ∧ S' = [] ∧ D' = []) ∨
  (GoodCal P S D ∧ checkB a b = true ∧ ∃ M, ascI 1000000 (-1) M = true ∧ (∀ t, inI M t = (inI D t || decide (a ≤ t ∧ t < b))) ∧
    ((M.length ≤ 20 ∧ err = 0 ∧ P' = P ∧ S' = S ∧ D' = M) ∨ (20 < M.length ∧ err = 9 ∧ P' = 0 ∧ S' = [] ∧ D' = [])))
def CloseOut (w : World) (P : Int) (S D : List (Int × Int)) (a b : Int) (e : Ending) (w' : World) : Prop :=
  SinceOf w w' ∧ ∃ (err P' : Int) (A' : Option Addr) (n' c' : Nat) (B' : Option Addr) (m' d' : Nat) (S' D' : List (Int × Int)), e = .returned (.tuple #[CalV P' A' n' c' B' m' d', .int .i64 err]) ∧ IsCal w' P' A' n' c' B' m' d' S' D' ∧ CloseR P S D a b err P' S' D' ∧ (∀ b, blockOf A' = some b → w.heap.size ≤ b) ∧ (∀ b, blockOf B' = some b → w.heap.size ≤ b)
theorem IsCal.none (w : World) : IsCal w 0 Option.none 0 0 Option.none 0 0 [] [] := ⟨rfl, rfl, IsRow.nil _ _ _, IsRow.nil _ _ _, by decide, by decide⟩

theorem ascI_mem {most : Int} : ∀ {l : List (Int × Int)} {last : Int}, ascI most last l = true → ∀ p ∈ l, last < p.1 ∧ p.1 < p.2 ∧ p.2 ≤ most
  | [], _, _, p, hp => by simp at hp
  | s :: l, last, h, p, hp => by
    rw [ascI_cons] at h
    rcases List.mem_cons.1 hp with rfl | hp
    · exact ⟨h.1, h.2.1, h.2.2.1⟩
    · have := ascI_mem h.2.2.2 p hp; omega
theorem mergeI_length (out : List (Int × Int)) (d : Int × Int) : (mergeI out d).length ≤ out.length + 1 := by
  unfold mergeI; split <;> simp
theorem merged_length : ∀ (l out : List (Int × Int)), (l.foldl mergeI out).length ≤ out.length + l.length
  | [], out => by simp
  | d :: l, out => by have := merged_length l (mergeI out d); have := mergeI_length out d; simp only [List.foldl_cons, List.length_cons]; omega
theorem merged_succ (M : List (Int × Int)) (k : Nat) (hk : k < M.length) : (M.take (k + 1)).foldl mergeI [] = mergeI ((M.take k).foldl mergeI []) M[k] := by
  rw [List.take_succ_eq_append_getElem hk, List.foldl_append]; rfl

section
variable {P : Int} {A B : Option Addr} {n c m d : Nat} {S D : List (Int × Int)} {w : World}
end
end Go.Proofs.Ytdcncalcncomoaa
