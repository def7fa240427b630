/- The calendar's add and Spans. -/
import Derived.Test.YtdcncalcncomoaaCal9
namespace Go.Proofs.Ytdcncalcncomoaa
open Go.RowKit Go.Sort
set_option linter.unusedVariables false
attribute [local go_sem ↓] Go.wp_at_zero Go.wp_at_succ

theorem addI_length (out : List (Int × Int)) (a b : Int) : (addI out a b).length ≤ out.length + 1 := by
  unfold addI; split
  · omega
  · split <;> simp
theorem ascI_length {most : Int} : ∀ {l : List (Int × Int)} {last : Int}, ascI most last l = true → (l.length : Int) ≤ endI last l - last
  | [], last, _ => by simp [endI]
  | s :: l, last, h => by
    rw [ascI_cons] at h
    have := ascI_length h.2.2.2
    simp only [endI, List.length_cons]; omega
def SpansR (P : Int) (S D : List (Int × Int)) (a b err : Int) (L : List (Int × Int)) : Prop :=
  ((validB P S D && checkB a b) = false ∧ err = errI (validB P S D) (checkB a b) ∧ L = []) ∨ (GoodCal P S D ∧ checkB a b = true ∧ err = 0 ∧ Runs (openI P S D) a b L b)
def SpansOut (w : World) (P : Int) (S D : List (Int × Int)) (a b : Int) (e : Ending) (w' : World) : Prop :=
  SinceOf w w' ∧ ∃ (err : Int) (A' : Option Addr) (n' c' : Nat) (L : List (Int × Int)), e = .returned (.tuple #[.slice A' n' c', .int .i64 err]) ∧ n' = L.length ∧ IsIvs w' A' c' L ∧ L.length ≤ 2000000000 ∧ SpansR P S D a b err L
def AddOut (base : Nat) (w : World) (A : Option Addr) (l : List (Int × Int)) (a b : Int) (e : Ending) (w' : World) : Prop :=
  ∃ (A' : Option Addr) (c' : Nat), e = .returned (.slice A' (addI l a b).length c') ∧ OwnIvs base w' A' c' (addI l a b) ∧ w.grownBy w' (blockOf A) ∧ (blockOf A' = blockOf A ∨ ∀ k, blockOf A' = some k → w.heap.size ≤ k)

theorem cutI_nil (b : Int) (out : List (Int × Int)) (a : Int) : cutI b (out, a) [] = addI out a b := rfl
theorem cutI_cons (b : Int) (out : List (Int × Int)) (a : Int) (d : Int × Int) (D : List (Int × Int)) : cutI b (out, a) (d :: D) = if a < d.2 ∧ d.1 < b then cutI b (addI out a d.1, d.2) D else cutI b (out, a) D := rfl
theorem roundI_cons (D : List (Int × Int)) (lo hi begin : Int) (out : List (Int × Int)) (s : Int × Int) (S : List (Int × Int)) : roundI D lo hi begin out (s :: S) = roundI D lo hi begin (cutI (min hi (begin + s.2)) (out, max lo (begin + s.1)) D) S := rfl
theorem begin_mod {P q t : Int} (hP : 1 ≤ P) (h0 : P * q ≤ t) (h1 : t < P * q + P) : t % P = t - P * q :=
  ((Int.ediv_emod_unique (a := t) (b := P) (r := t - P * q) (q := q) (by omega)).2 ⟨by omega, by omega, by omega⟩).2
section
variable {P : Int} {A B : Option Addr} {n c m d : Nat} {S D : List (Int × Int)} {w : World}
end
end Go.Proofs.Ytdcncalcncomoaa
/- The reference's Spans. -/
namespace Go.Proofs.Ytdcncalcncomoaa
open Go.RowKit Go.Sort
set_option linter.unusedVariables false
attribute [local go_sem ↓] Go.wp_at_zero Go.wp_at_succ
section
variable {P : Int} {A B : Option Addr} {n c m d : Nat} {S D : List (Int × Int)} {w : World}
end
theorem SpansR.unique {P : Int} {S D : List (Int × Int)} {a b e e' : Int} {L L' : List (Int × Int)} (h : SpansR P S D a b e L) (k : SpansR P S D a b e' L') : e = e' ∧ L = L' := by
  rcases h with ⟨h1, h2, h3⟩ | ⟨h1, h2, h3, h4⟩ <;> rcases k with ⟨k1, k2, k3⟩ | ⟨k1, k2, k3, k4⟩
  · exact ⟨by rw [h2, k2], by rw [h3, k3]⟩
  · rw [validB_iff.2 k1, k2] at h1; cases h1
  · rw [validB_iff.2 h1, h2] at k1; cases k1
  · exact ⟨by rw [h3, k3], Runs.unique h4 k4 rfl⟩
end Go.Proofs.Ytdcncalcncomoaa
