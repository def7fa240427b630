/- Layer 15: near, next, upper, Valid of the program. -/
import Derived.Test.YtkpnffokjpgalaaGreatKMinkP3
import Derived.Test.YtkpnffokjpgalaaGreatKVecs
import Derived.Test.YtkpnffokjpgalaaGreatKSort
import Derived.Deep.LoopGhost
import Derived.Deep.RegionHeld3
import Derived.BigRegion
import Derived.Deep.DeepCutAuto
import Derived.Deep.DrawnRows
import Derived.Deep.RegionLaw
import Derived.Deep.CutBlock
import Derived.IntWalk
namespace Go.Proofs.YtkpnffokjpgalaaGreat
set_option linter.unusedVariables false
set_option linter.unusedSimpArgs false
open Go.RowKit Go.Sort
attribute [local go_sem ↓] Go.wp_at_zero Go.wp_at_succ

theorem any_dropV (p : Pt → Bool) {l : List Pt} {k : Nat} (h : k < l.length) : (l.drop k).any p = (p l[k] || (l.drop (k + 1)).any p) := by
  rw [List.drop_eq_getElem_cons h, List.any_cons]
theorem all_dropV (p : Pt → Bool) {l : List Pt} {k : Nat} (h : k < l.length) : (l.drop k).all p = (p l[k] && (l.drop (k + 1)).all p) := by
  rw [List.drop_eq_getElem_cons h, List.all_cons]
theorem all_any : ∀ l : List Pt, l.all inV = !l.any (fun p => !inV p)
  | [] => rfl
  | p :: l => by rw [List.all_cons, List.any_cons, all_any l, Bool.not_or, Bool.not_not]
/-- A variable of two ints in a block of its own. -/
structure VarV (W : World) (g : Nat) (p : Pt) : Prop where
  c0 : W.cell? ⟨g, 0, none⟩ = some (.int .i64 p.1)
  c1 : W.cell? ⟨g, 1, none⟩ = some (.int .i64 p.2)
  f0 : W.frozen? ⟨g, 0, none⟩ = false
  f1 : W.frozen? ⟨g, 1, none⟩ = false
  lt : g < W.heap.size
theorem VarV.of {W W' : World} {g : Nat} {p : Pt} (h : VarV W g p) (hs : SinceOf W W') : VarV W' g p := by
  obtain ⟨z, rfl⟩ := hs
  have hO : Nonempty (Old W g) := ⟨⟨h.lt⟩⟩
  exact ⟨by rw [Since.cell]; exact h.c0, by rw [Since.cell]; exact h.c1, by rw [Since.frozen]; exact h.f0, by rw [Since.frozen]; exact h.f1, Nat.lt_of_lt_of_le h.lt z.size⟩
theorem VarV.put {W : World} {g : Nat} {p : Pt} (h : VarV W g p) (x y : Int) : VarV ((W.setCell ⟨g, 0, none⟩ (.int .i64 x)).setCell ⟨g, 1, none⟩ (.int .i64 y)) g (x, y) := by
  have v : IsVec W g p.1 p.2 := ⟨h.c0, h.c1, h.f0, h.f1, ⟨⟨h.lt⟩⟩⟩
  have q := v.set x y
  exact ⟨q.c0, q.c1, q.f0, q.f1, by simpa [World.setCell] using h.lt⟩
theorem VarV.new (W : World) (x y : Int) (t : TypeId) : VarV (W.alloc (.cells #[.int .i64 x, .int .i64 y] t)) W.heap.size (x, y) :=
  ⟨by simp, by simp, by simp, by simp, by simp⟩
theorem crs_exact {a b c d : Int} (ha : -16000 ≤ a ∧ a ≤ 16000) (hb : -16000 ≤ b ∧ b ≤ 16000) (hc : -16000 ≤ c ∧ c ≤ 16000) (hd : -16000 ≤ d ∧ d ≤ 16000) : crossI a b c d = crs (a, b) (c, d) :=
  cross_exact (by omega) (by omega) (by omega) (by omega)
theorem edge_exact {p q : Pt} (hp : near 8000 p) (hq : near 8000 q) : wsub q.1 p.1 = (subP q p).1 ∧ wsub q.2 p.2 = (subP q p).2 ∧ (-16000 ≤ (subP q p).1 ∧ (subP q p).1 ≤ 16000) ∧ (-16000 ≤ (subP q p).2 ∧ (subP q p).2 ≤ 16000) := by
  unfold near at hp hq
  unfold subP
  rw [wsub_in (by omega), wsub_in (by omega)]
  exact ⟨rfl, rfl, by omega, by omega⟩
theorem validB_small {r : List Pt} (h : r.length < 3 ∨ 160 < r.length) : validB r = false := by
  cases q : validB r
  · rfl
  · obtain ⟨h1, h2, -⟩ := validB_iff.1 q
    omega
theorem validB_far {r : List Pt} (h : r.all inV = false) : validB r = false := by
  unfold validB
  rw [h, Bool.and_false, Bool.false_and, Bool.false_and]
theorem validB_right {r : List Pt} {i : Nat} (hi : i < r.length) (h : leftAt r i = false) : validB r = false := by
  unfold validB
  have : (List.range r.length).all (leftAt r) = false := List.all_eq_false.2 ⟨i, List.mem_range.2 hi, by rw [h]; decide⟩
  rw [this, Bool.and_false, Bool.false_and]
theorem validB_end {r : List Pt} (h3 : 3 ≤ r.length) (h160 : r.length ≤ 160) (hn : r.all inV = true) (hl : ∀ i, i < r.length → leftAt r i = true) : validB r = decide (turns r r.length = 1) := by
  unfold validB
  have : (List.range r.length).all (leftAt r) = true := List.all_eq_true.2 fun i hi => hl i (List.mem_range.1 hi)
  rw [decide_eq_true h3, decide_eq_true h160, hn, this]
  rfl
end Go.Proofs.YtkpnffokjpgalaaGreat
/- Layer 15: Valid of the program and of the reference. -/
namespace Go.Proofs.YtkpnffokjpgalaaGreat
set_option linter.unusedVariables false
set_option linter.unusedSimpArgs false
open Go.RowKit Go.Sort
attribute [local go_sem ↓] Go.wp_at_zero Go.wp_at_succ

end Go.Proofs.YtkpnffokjpgalaaGreat
