/- vec.Sorted: Clone, SortFunc, Compact. -/
import Derived.Test.YtkpnffokjpgalaaKSort
import Derived.Test.YtkpnffokjpgalaaKVecB
import Derived.Deep.LoopGhost
import Derived.Lib.SlicesCompact
import Derived.Outline
import Derived.Deep.DeepCutAuto
import Derived.Deep.DrawnRows
import Derived.Deep.RegionLaw
import Derived.Deep.CutBlock
namespace Go.Proofs.Ytkpnffokjpgalaa
set_option linter.unusedVariables false
set_option linter.unusedSimpArgs false
open Go.RowKit Go.Sort

theorem ltOf_cmpV (p q : Int × Int) : ltOf cmpV p q = decide (p.2 < q.2 ∨ (p.2 = q.2 ∧ p.1 < q.1)) := by
  unfold ltOf cmpV
  rcases vcmp_cases p.1 p.2 q.1 q.2 with ⟨h, e⟩ | ⟨h, e⟩ | ⟨h1, h2, e⟩ <;> rw [e] <;> simp <;> omega
theorem swoV : SWO (ltOf cmpV) where
  irrefl x := by rw [ltOf_cmpV]; simp
  trans x y z h1 h2 := by rw [ltOf_cmpV] at *; simp at *; omega
  ntrans x y z h1 h2 := by rw [ltOf_cmpV] at *; simp at *; omega
theorem totV (x y : Int × Int) (h1 : ltOf cmpV x y = false) (h2 : ltOf cmpV y x = false) : x = y := by
  rw [ltOf_cmpV] at *; simp at *
  have a : x.1 = y.1 := by omega
  have b : x.2 = y.2 := by omega
  exact Prod.ext a b

theorem cmpLaysV (blk off size : Nat) (w : World) : CmpLays Try.prog 60 #[] encV 2 cmpV blk off size w := by
  intro m os dk _ x y
  refine (compare_any x.1 x.2 y.1 y.2 _).calls.mono ?_
  rintro e _ ⟨rfl, z, rfl⟩
  exact ⟨rfl, grow_of_later z⟩

/-- What slices.Compact leaves of a list. -/
def compactV (l : List (Int × Int)) : List (Int × Int) := Lib.compactUpTo l.toArray l.length

theorem run_clear_row {P : Program} (w : World) (t e : TypeId) (z : Value) (k : Nat) (ht : P.underlying t = some (.slice e)) (hv : ∀ w, (zeroValue e).run P w = .ok z w) (hzs : z.cells.size = k) (hk0 : 0 < k) (h1 : ∀ u ∈ z.cells.toList, u.oneCell' = true) (b o n c : Nat) (hn : 0 < n)
    (hc : ∀ j, j < n * k → (w.cell? ⟨b, o + j, none⟩).isSome = true) (hf : ∀ j, j < n * k → w.frozen? ⟨b, o + j, none⟩ = false) :
    ∃ vs : List Value, vs.length = n * k ∧ ∀ ty, (Builtin.clear_ #[t] ty #[.slice (some ⟨b, o, none⟩) n c]).run P w = .ok (.tuple #[]) (w.setCells b o vs) := by
  have hlen : (Builtin.zeroCells z.cells n).toList.length = n * k := by rw [Array.length_toList, size_zeroCells, hzs]
  have hone : ∀ v ∈ (Builtin.zeroCells z.cells n).toList, v.oneCell' = true := by
    intro v hv'
    simp only [Builtin.zeroCells, Array.toList_map, List.mem_map] at hv'
    obtain ⟨i, _, rfl⟩ := hv'
    refine h1 _ ?_
    have hlt : i % z.cells.size < z.cells.size := Nat.mod_lt _ (by omega)
    rw [getElem!_pos z.cells (i % z.cells.size) hlt]
    exact Array.getElem_mem_toList hlt
  have hst := run_storeCells_cells (P := P) b o (Builtin.zeroCells z.cells n).toList 0 w (by rw [hlen]; simpa using hc) (by rw [hlen]; simpa using hf) hone
  simp only [Nat.add_zero] at hst
  obtain ⟨m, rfl⟩ : ∃ m, n = m + 1 := ⟨n - 1, by omega⟩
  exact ⟨_, hlen, fun ty => by simp [Builtin.clear_, run_underlying ht, hv, hst]⟩

def sortedV (l : List (Int × Int)) : List (Int × Int) := compactV (vsort l)
end Go.Proofs.Ytkpnffokjpgalaa
/- Plain law: the sort by insertion without doubles gives the sorted list without doubles. -/
namespace Go.Proofs.Ytkpnffokjpgalaa
set_option linter.unusedVariables false
set_option linter.unusedSimpArgs false
open Go.RowKit Go.Sort

/-- Strictly less: by the second, then by the first. -/
def ltV (p q : Int × Int) : Bool := lessB p.1 p.2 q.1 q.2
theorem ltV_iff (p q : Int × Int) : ltV p q = true ↔ (p.2 < q.2 ∨ (p.2 = q.2 ∧ p.1 < q.1)) := by
  unfold ltV lessB; simp
theorem ltV_trans {p q r : Int × Int} (h : ltV p q = true) (k : ltV q r = true) : ltV p r = true := by
  rw [ltV_iff] at *; omega
theorem ltV_irrefl (p : Int × Int) : ltV p p = false := by
  rw [Bool.eq_false_iff]; intro h; rw [ltV_iff] at h; omega
theorem ltV_tri {p q : Int × Int} (h : ltV p q = false) (k : p ≠ q) : ltV q p = true := by
  rw [Bool.eq_false_iff] at h
  rw [ne_eq, ltV_iff] at h
  rw [ltV_iff]
  by_cases e : p.2 = q.2
  · have : p.1 ≠ q.1 := fun f => k (Prod.ext f e)
    omega
  · omega
theorem strict_unique : ∀ (a b : List (Int × Int)), a.Pairwise (fun x y => ltV x y = true) → b.Pairwise (fun x y => ltV x y = true) → (∀ x, x ∈ a ↔ x ∈ b) → a = b
  | [], [], _, _, _ => rfl
  | [], y :: b, _, _, h => by have := (h y).2 (by simp); simp at this
  | x :: a, [], _, _, h => by have := (h x).1 (by simp); simp at this
  | x :: a, y :: b, ha, hb, h => by
    rw [List.pairwise_cons] at ha hb
    have hxy : x = y := by
      have h1 := (h x).1 (by simp)
      have h2 := (h y).2 (by simp)
      rw [List.mem_cons] at h1 h2
      rcases h1 with h1 | h1
      · exact h1
      · rcases h2 with h2 | h2
        · exact h2.symm
        · have := ltV_trans (hb.1 x h1) (ha.1 y h2)
          rw [ltV_irrefl] at this; cases this
    subst hxy
    congr 1
    refine strict_unique a b ha.2 hb.2 fun z => ⟨fun hz => ?_, fun hz => ?_⟩
    · have := (h z).1 (List.mem_cons_of_mem _ hz)
      rcases List.mem_cons.1 this with rfl | h3
      · have := ha.1 z hz
        rw [ltV_irrefl] at this; cases this
      · exact h3
    · have := (h z).2 (List.mem_cons_of_mem _ hz)
      rcases List.mem_cons.1 this with rfl | h3
      · have := hb.1 z hz
        rw [ltV_irrefl] at this; cases this
      · exact h3

/-- Not greater. -/
theorem leV_iff (p q : Int × Int) : leV p q = true ↔ ¬ (ltV q p = true) := by
  rw [ltV_iff]; unfold leV; rw [ltOf_cmpV]; simp only [Bool.not_eq_true', decide_eq_false_iff_not]
theorem vsort_sorted (l : List (Int × Int)) : (vsort l).Pairwise (fun x y => leV x y = true) := by
  unfold vsort
  refine List.pairwise_mergeSort ?_ ?_ l
  · intro a b c h k
    rw [leV_iff, ltV_iff] at *; omega
  · intro a b
    rw [Bool.or_eq_true, leV_iff, leV_iff, ltV_iff, ltV_iff]; omega
theorem compact_strict (l : List (Int × Int)) (hs : l.Pairwise (fun x y => leV x y = true)) : ∀ n, n ≤ l.length →
    (Lib.compactUpTo l.toArray n).Pairwise (fun x y => ltV x y = true) ∧ ∀ x, x ∈ Lib.compactUpTo l.toArray n ↔ x ∈ l.take n
  | 0, _ => by simp [Lib.compactUpTo]
  | n + 1, hn => by
    obtain ⟨h1, h2⟩ := compact_strict l hs n (by omega)
    have hg : l.toArray[n]! = l[n] := by simp [show n < l.length from hn]
    rw [Lib.compactUpTo_succ, hg]
    have hle : ∀ j (hj : j < n), leV l[j] l[n] = true := fun j hj => List.pairwise_iff_getElem.1 hs j n (by omega) hn hj
    by_cases hk : Lib.keeps l.toArray n = true
    · rw [if_pos hk]
      refine ⟨?_, ?_⟩
      · rw [List.pairwise_append]
        refine ⟨h1, by simp, ?_⟩
        intro x hx y hy
        rw [List.mem_singleton] at hy
        subst hy
        rw [h2, List.mem_take_iff_getElem] at hx
        obtain ⟨j, hj, rfl⟩ := hx
        have hjn : j < n := by omega
        have hne : l[n - 1] ≠ l[n] := by
          intro e
          have : Lib.keeps l.toArray n = false := Lib.keeps_neg (by omega) (by rw [hg]; simp [show n - 1 < l.length from by omega, e])
          rw [this] at hk; cases hk
        have a1 : leV l[j] l[n - 1] = true := by
          by_cases e : j = n - 1
          · subst e; rw [leV_iff, ltV_irrefl]; simp
          · exact List.pairwise_iff_getElem.1 hs j (n - 1) (by omega) (by omega) (by omega)
        have a2 := hle (n - 1) (by omega)
        rw [leV_iff, ltV_iff] at a1 a2
        have a3 : ltV l[n - 1] l[n] = true := by
          cases hb : ltV l[n - 1] l[n]
          · have := ltV_tri hb hne
            rw [ltV_iff] at this; omega
          · rfl
        rw [ltV_iff] at a3 ⊢
        omega
      · intro x
        rw [List.mem_append, h2, List.take_succ_eq_append_getElem hn, List.mem_append]
    · have hk : Lib.keeps l.toArray n = false := by simpa using hk
      rw [hk]
      have hn0 : 0 < n := by
        rcases Nat.eq_zero_or_pos n with rfl | h
        · rw [Lib.keeps_lt_one _ 0 (by omega)] at hk; cases hk
        · exact h
      have he : l[n - 1] = l[n] := by
        by_cases e : l[n - 1] = l[n]
        · exact e
        · have : Lib.keeps l.toArray n = true := Lib.keeps_pos (by rw [hg]; simp [show n - 1 < l.length from by omega]; exact fun h => e h.symm)
          rw [this] at hk; cases hk
      refine ⟨by simpa using h1, fun x => ?_⟩
      simp only [Bool.false_eq_true, if_false, List.append_nil]
      rw [List.take_succ_eq_append_getElem hn, List.mem_append, ← h2, List.mem_singleton]
      refine ⟨fun h => .inl h, ?_⟩
      rintro (h | rfl)
      · exact h
      · rw [h2, List.mem_take_iff_getElem]
        exact ⟨n - 1, by omega, he⟩
theorem sortedV_strict (l : List (Int × Int)) : (sortedV l).Pairwise (fun x y => ltV x y = true) ∧ ∀ x, x ∈ sortedV l ↔ x ∈ l := by
  obtain ⟨h1, h2⟩ := compact_strict (vsort l) (vsort_sorted l) (vsort l).length (Nat.le_refl _)
  refine ⟨h1, fun x => ?_⟩
  unfold sortedV compactV
  rw [h2, List.take_length]
  unfold vsort
  exact List.mem_mergeSort

/-- Where x belongs. -/
def posV (x : Int × Int) (out : List (Int × Int)) : Nat := (out.takeWhile (fun y => ltV y x)).length
/-- One more, if it isn't there. -/
def insV (out : List (Int × Int)) (x : Int × Int) : List (Int × Int) :=
  if out[posV x out]? = some x then out else out.take (posV x out) ++ x :: out.drop (posV x out)
theorem posV_is (x : Int × Int) (out : List (Int × Int)) (k : Nat) (hk : k ≤ out.length) (h : ∀ j (hj : j < k), ltV out[j] x = true) (hs : ∀ (hlt : k < out.length), ltV out[k] x = false) : posV x out = k := by
  unfold posV
  induction out generalizing k with
  | nil => simp at hk; simp [hk]
  | cons y out ih =>
    cases k with
    | zero =>
      have := hs (by simp)
      simp only [List.getElem_cons_zero] at this
      simp [this]
    | succ k =>
      have h0 := h 0 (by omega)
      simp only [List.getElem_cons_zero] at h0
      rw [List.takeWhile_cons, if_pos h0, List.length_cons, ih k (by simpa using hk) (fun j hj => by simpa using h (j + 1) (by omega)) (fun hlt => hs (Nat.succ_lt_succ hlt))]
theorem ins_strict (x : Int × Int) : ∀ out : List (Int × Int), out.Pairwise (fun x y => ltV x y = true) → (insV out x).Pairwise (fun x y => ltV x y = true) ∧ ∀ y, y ∈ insV out x ↔ y ∈ out ∨ y = x
  | [], _ => by simp [insV, posV]
  | z :: out, h => by
    rw [List.pairwise_cons] at h
    obtain ⟨i1, i2⟩ := ins_strict x out h.2
    cases hz : ltV z x with
    | true =>
      have e : insV (z :: out) x = z :: insV out x := by
        have hp : posV x (z :: out) = posV x out + 1 := by simp [posV, hz]
        unfold insV
        rw [hp]
        simp only [List.getElem?_cons_succ, List.take_succ_cons, List.drop_succ_cons]
        split <;> simp
      rw [e, List.pairwise_cons]
      refine ⟨⟨fun y hy => ?_, i1⟩, fun y => ?_⟩
      · rcases (i2 y).1 hy with hy | rfl
        · exact h.1 y hy
        · exact hz
      · rw [List.mem_cons, i2, List.mem_cons, or_assoc]
    | false =>
      have hp : posV x (z :: out) = 0 := by simp [posV, hz]
      unfold insV
      rw [hp]
      simp only [List.getElem?_cons_zero, Option.some.injEq, List.take_zero, List.drop_zero, List.nil_append]
      split
      · rename_i e
        subst e
        exact ⟨List.pairwise_cons.2 h, fun y => by simp only [List.mem_cons]; exact ⟨fun h => .inl h, fun h => h.elim id fun e => .inl e⟩⟩
      · rename_i e
        have hxz := ltV_tri hz e
        refine ⟨List.pairwise_cons.2 ⟨fun y hy => ?_, List.pairwise_cons.2 h⟩, fun y => by simp only [List.mem_cons]; exact ⟨fun h => h.elim .inr .inl, fun h => h.elim .inr .inl⟩⟩
        rcases List.mem_cons.1 hy with rfl | hy
        · exact hxz
        · exact ltV_trans hxz (h.1 y hy)
def rsortTo (l : List (Int × Int)) (k : Nat) : List (Int × Int) := (l.take k).foldl insV []
theorem rsortTo_succ (l : List (Int × Int)) (k : Nat) (h : k < l.length) : rsortTo l (k + 1) = insV (rsortTo l k) l[k] := by
  unfold rsortTo; rw [List.take_succ_eq_append_getElem h, List.foldl_append]; rfl
theorem rsortTo_strict (l : List (Int × Int)) : ∀ k, k ≤ l.length → (rsortTo l k).Pairwise (fun x y => ltV x y = true) ∧ ∀ x, x ∈ rsortTo l k ↔ x ∈ l.take k
  | 0, _ => by simp [rsortTo]
  | k + 1, hk => by
    obtain ⟨h1, h2⟩ := rsortTo_strict l k (by omega)
    rw [rsortTo_succ l k hk]
    obtain ⟨i1, i2⟩ := ins_strict l[k] (rsortTo l k) h1
    refine ⟨i1, fun x => ?_⟩
    rw [i2, h2, List.take_succ_eq_append_getElem hk, List.mem_append, List.mem_singleton]
theorem rsort_sorted (l : List (Int × Int)) : rsortTo l l.length = sortedV l := by
  obtain ⟨h1, h2⟩ := rsortTo_strict l l.length (Nat.le_refl _)
  obtain ⟨k1, k2⟩ := sortedV_strict l
  refine strict_unique _ _ h1 k1 fun x => ?_
  rw [h2, k2, List.take_length]
theorem rsortTo_length (l : List (Int × Int)) : ∀ k, k ≤ l.length → (rsortTo l k).length ≤ k
  | 0, _ => by simp [rsortTo]
  | k + 1, hk => by
    rw [rsortTo_succ l k hk]
    have := rsortTo_length l k (by omega)
    unfold insV
    split
    · omega
    · simp; omega

end Go.Proofs.Ytkpnffokjpgalaa
/- The reference's Sorted: insertion into a new list. -/
namespace Go.Proofs.Ytkpnffokjpgalaa
set_option linter.unusedVariables false
set_option linter.unusedSimpArgs false
set_option maxRecDepth 20000
open Go.RowKit Go.Sort

section
variable {α : Type} {enc : α → List Value} {k : Nat} {w w' : World} {g off c : Nat} {A : Option Addr} {l : List α}
theorem RowAt.grown {row : Option Nat} (h : RowAt enc k w g off l) (hg : w.grownBy w' row) (hne : some g ≠ row) : RowAt enc k w' g off l :=
  ⟨fun i hi j u hu => hg.cell (h.cells i hi j u hu) hne, h.there.elim fun q => ⟨⟨Nat.lt_of_lt_of_le q.lt hg.size⟩⟩⟩
theorem RowAt.take (h : RowAt enc k w g off l) (n : Nat) : RowAt enc k w g off (l.take n) :=
  ⟨fun i hi j u hu => h.cells i (by simp at hi; omega) j u (by simpa using hu), h.there⟩
theorem RowAt.drop (h : RowAt enc k w g off l) (n : Nat) : RowAt enc k w g (off + n * k) (l.drop n) :=
  ⟨fun i hi j u hu => by
    have hi' : n + i < l.length := by simp at hi; omega
    have := h.cells (n + i) hi' j u (by simpa using hu)
    rwa [Nat.add_mul, ← Nat.add_assoc] at this, h.there⟩
theorem IsRow.take (h : IsRow enc k w A c l) (n : Nat) : IsRow enc k w A c (l.take n) := by
  refine ⟨h.1, ?_⟩
  rcases h.2 with rfl | ⟨g, off, e, h⟩
  · exact .inl (by simp)
  · exact .inr ⟨g, off, e, h.take n⟩
theorem IsRow.drop (h : IsRow enc k w A c l) (hlc : l.length ≤ c) (n : Nat) : IsRow enc k w (if c = n then A else Option.map (fun x => x.add (n * k)) A) (c - n) (l.drop n) := by
  by_cases e : c = n
  · rw [if_pos e]
    exact ⟨fun _ => by omega, .inl (List.drop_eq_nil_of_le (by omega))⟩
  · rw [if_neg e]
    refine ⟨fun hA => ?_, ?_⟩
    · have : A = none := by simpa using hA
      have := h.1 this
      omega
    · rcases h.2 with rfl | ⟨g, off, rfl, hr⟩
      · exact .inl (by simp)
      · exact .inr ⟨g, off + n * k, by simp [add_none], hr.drop n⟩
end
theorem owns_empty (W : World) (b : Nat) (hb : b ≤ W.heap.size) : OwnVecs b (W.alloc (.cells #[] 37)) (some ⟨W.heap.size, 0, none⟩) 0 [] :=
  World.ownsRow_lit (base := b) (e := 37) (size := 2) W #[] 0 hb (Nat.zero_le _) rfl
theorem row_one (W : World) (x y : Int) : RowAt encV 2 (W.alloc (.cells #[.int .i64 x, .int .i64 y] 37)) W.heap.size 0 [(x, y)] := by
  refine ⟨fun i hi j u hu => ?_, inferInstance⟩
  obtain rfl : i = 0 := by simpa using hi
  match j, hu with
  | 0, hu => simp [encV] at hu; subst hu; simp
  | 1, hu => simp [encV] at hu; subst hu; simp
  | j + 2, hu => simp [encV] at hu
def hasV (out : List (Int × Int)) (p : Nat) (q : Int × Int) : Bool := decide (out[p]? = some q)
theorem Owns.le_cap {α : Type} {enc : α → List Value} {k base : Nat} {e : TypeId} {w : World} {A : Option Addr} {c : Nat} {l : List α} (h : Owns enc k base e w A c l) : l.length ≤ c := by
  obtain ⟨h1, h2⟩ := h
  rcases h2 with ⟨h2, h3⟩ | ⟨g, cap, cur, hv, hb, hg, hn, hm, hs, ht⟩
  · omega
  · simp only [Value.slice.injEq, true_and] at hv
    omega

end Go.Proofs.Ytkpnffokjpgalaa
/- The reference's Same of lists of vectors. -/
namespace Go.Proofs.Ytkpnffokjpgalaa
set_option linter.unusedVariables false
set_option linter.unusedSimpArgs false
open Go.RowKit

end Go.Proofs.Ytkpnffokjpgalaa
