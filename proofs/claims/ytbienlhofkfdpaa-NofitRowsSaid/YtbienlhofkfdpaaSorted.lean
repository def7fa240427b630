/- vec.Sorted: Clone, SortFunc, Compact. -/
import Derived.Test.YtbienlhofkfdpaaSort
import Derived.Test.YtbienlhofkfdpaaPlain06
import Derived.Deep.LoopGhost
import Derived.Lib.SlicesCompact
namespace Go.Proofs.Ytbienlhofkfdpaa
open Go.RowKit Go.Sort
set_option linter.unusedVariables false

theorem ltOf_cmpV (p q : Int × Int) : ltOf cmpV p q = decide (p.2 < q.2 ∨ (p.2 = q.2 ∧ p.1 < q.1)) := by
  unfold ltOf cmpV
  rcases vcmp_cases p.1 p.2 q.1 q.2 with ⟨h, e⟩ | ⟨h, e⟩ | ⟨h1, h2, e⟩ <;> rw [e] <;> simp <;> omega
theorem swoV : SWO (ltOf cmpV) where
  irrefl x := by rw [ltOf_cmpV]; simp
  trans x y z h1 h2 := by rw [ltOf_cmpV] at *; simp at *; omega
  ntrans x y z h1 h2 := by rw [ltOf_cmpV] at *; simp at *; omega
theorem totV (x y : Int × Int) (h1 : ltOf cmpV x y = false) (h2 : ltOf cmpV y x = false) : x = y := by
  rw [ltOf_cmpV] at *; simp at *
  have a : x.1 = y.1 := by omega
  have b : x.2 = y.2 := by omega
  exact Prod.ext a b

theorem cmpLaysV (blk off size : Nat) (w : World) : CmpLays Try.prog 91 #[] encV 2 cmpV blk off size w := by
  intro m os dk _ x y
  refine (compare_any x.1 x.2 y.1 y.2 _).calls.mono ?_
  rintro e _ ⟨rfl, z, rfl⟩
  exact ⟨rfl, grow_of_later z⟩

/-- What slices.Compact leaves of a list. -/
def compactV (l : List (Int × Int)) : List (Int × Int) := Lib.compactUpTo l.toArray l.length

theorem run_clear_row {P : Program} (w : World) (t e : TypeId) (z : Value) (k : Nat) (ht : P.underlying t = some (.slice e)) (hv : ∀ w, (zeroValue e).run P w = .ok z w) (hzs : z.cells.size = k) (hk0 : 0 < k) (h1 : ∀ u ∈ z.cells.toList, u.oneCell' = true) (b o n c : Nat) (hn : 0 < n)
    (hc : ∀ j, j < n * k → (w.cell? ⟨b, o + j, none⟩).isSome = true) (hf : ∀ j, j < n * k → w.frozen? ⟨b, o + j, none⟩ = false) :
    ∃ vs : List Value, vs.length = n * k ∧ ∀ ty, (Builtin.clear_ #[t] ty #[.slice (some ⟨b, o, none⟩) n c]).run P w = .ok (.tuple #[]) (w.setCells b o vs) := by
  have hlen : (Builtin.zeroCells z.cells n).toList.length = n * k := by rw [Array.length_toList, size_zeroCells, hzs]
  have hone : ∀ v ∈ (Builtin.zeroCells z.cells n).toList, v.oneCell' = true := by
    intro v hv'
    simp only [Builtin.zeroCells, Array.toList_map, List.mem_map] at hv'
    obtain ⟨i, _, rfl⟩ := hv'
    refine h1 _ ?_
    have hlt : i % z.cells.size < z.cells.size := Nat.mod_lt _ (by omega)
    rw [getElem!_pos z.cells (i % z.cells.size) hlt]
    exact Array.getElem_mem_toList hlt
  have hst := run_storeCells_cells (P := P) b o (Builtin.zeroCells z.cells n).toList 0 w (by rw [hlen]; simpa using hc) (by rw [hlen]; simpa using hf) hone
  simp only [Nat.add_zero] at hst
  obtain ⟨m, rfl⟩ : ∃ m, n = m + 1 := ⟨n - 1, by omega⟩
  exact ⟨_, hlen, fun ty => by simp [Builtin.clear_, run_underlying ht, hv, hst]⟩

def sortedV (l : List (Int × Int)) : List (Int × Int) := compactV (vsort l)
end Go.Proofs.Ytbienlhofkfdpaa
