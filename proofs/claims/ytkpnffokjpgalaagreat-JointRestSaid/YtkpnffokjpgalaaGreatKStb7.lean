/- Layer 46: slices.Sort of indices. -/
import Derived.Test.YtkpnffokjpgalaaGreatKStb5
import Derived.Test.YtkpnffokjpgalaaGreatKSortLay
import Derived.Shelf.Sort.Plain
import Derived.Shelf.Slices.In.SortNone
namespace Go.Proofs.YtkpnffokjpgalaaGreat
set_option linter.unusedVariables false
set_option linter.unusedSimpArgs false
open Go.RowKit Go.Sort
attribute [local go_sem ↓] Go.wp_at_zero Go.wp_at_succ

def onI (l : List Pt) : List Int := l.map Prod.fst
theorem Live.ints {w : World} {g off : Nat} {l : List Pt} (h : Live encQ 1 w g off l) : Holds (Value.int .i64) w g off (onI l).toArray := by
  intro j hj
  have hj' : j < l.length := by simpa [onI] using hj
  refine ⟨?_, h.free j (by omega)⟩
  have := h.row.q0 j hj'
  rw [this, at0_eq hj']
  simp [onI, hj']
theorem live_ints {w : World} {g off : Nat} {zs : List Int} (hg : g < w.heap.size) (h : Holds (Value.int .i64) w g off zs.toArray) : Live encQ 1 w g off (zs.map fun x => (x, (0 : Int))) := by
  refine ⟨⟨fun i hi j u hu => ?_, ⟨⟨hg⟩⟩⟩, fun j hj => ?_⟩
  · have hi' : i < zs.length := by simpa using hi
    have ht : j < 1 := by
      have := (List.getElem?_eq_some_iff.1 hu).1
      rwa [encQ_len] at this
    obtain rfl : j = 0 := by omega
    simp [encQ] at hu
    subst hu
    have := (h i (by simpa using hi')).1
    rw [Nat.add_zero, Nat.mul_one, this]
    simp [hi']
  · exact (h j (by simp at hj ⊢; omega)).2
theorem sortQ_any (g off c : Nat) (l : List Pt) (w : World) (hL : Live encQ 1 w g off l) (hn : l.length < 4611686018427387904) :
    Calls Tryz.prog 38 #[.slice (some ⟨g, off, none⟩) l.length c] w fun e w' => e = .returned (.tuple #[]) ∧ Live encQ 1 w' g off (((onI l).mergeSort fun x y => decide (x ≤ y)).map fun x => (x, (0 : Int))) ∧ w.grownBy w' (some g) := by
  have hg : g < w.heap.size := hL.row.there.elim fun h => h.lt
  have hcon := Any.slices_Sort_int Tryz.sortInts g off c (onI l) w hL.ints hg (by simpa [onI] using hn)
  change Calls Tryz.prog 38 _ _ _ at hcon
  rw [show (onI l).length = l.length by simp [onI]] at hcon
  refine hcon.mono ?_
  rintro e w' ⟨rfl, n, os, rfl⟩
  have hgr : w.grownBy (grow (putRow (Value.int .i64) (Sort.ahead w n) g off ((onI l).mergeSort fun x y => decide (x ≤ y)).toArray) os) (some g) := by
    refine ⟨rfl, rfl, rfl, ?_, fun i hi hne => ?_⟩
    · simp [grow, putRow, mapBlock, Sort.ahead]
    · have hne' : i ≠ g := fun e => hne (by rw [e])
      simp only [grow, putRow, mapBlock, Sort.ahead]
      rw [Array.getElem?_append_left (by simpa using hi)]
      simp [Array.getElem?_modify, Ne.symm hne']
  refine ⟨rfl, live_ints (Nat.lt_of_lt_of_le hg hgr.size) ?_, hgr⟩
  refine holds_grow _ _ os g off _ (by simpa [putRow, mapBlock, Sort.ahead] using hg) ?_
  exact holds_putRow _ _ g off (onI l).toArray _ (holds_ahead _ _ n g off _ hL.ints) (by simp)
theorem sortQ_none (p : Option Addr) (c : Nat) (w : World) : Calls Tryz.prog 38 #[.slice p 0 c] w fun e w' => e = .returned (.tuple #[]) ∧ w' = w := by
  have hcon := Any.slices_Sort_int_none Tryz.sortInts p c w
  change Calls Tryz.prog 38 _ _ _ at hcon
  exact hcon
end Go.Proofs.YtkpnffokjpgalaaGreat
