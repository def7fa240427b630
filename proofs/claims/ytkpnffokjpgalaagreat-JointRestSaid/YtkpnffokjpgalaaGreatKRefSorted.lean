/- vec.Sorted: Clone, SortFunc, Compact. -/
import Derived.Test.YtkpnffokjpgalaaGreatKSort
import Derived.Test.YtkpnffokjpgalaaGreatKVecB
import Derived.Deep.LoopGhost
import Derived.Lib.SlicesCompact
import Derived.Outline
import Derived.Deep.DeepCutAuto
import Derived.Deep.DrawnRows
import Derived.Deep.RegionLaw
import Derived.Deep.CutBlock
namespace Go.Proofs.YtkpnffokjpgalaaGreat
set_option linter.unusedVariables false
set_option linter.unusedSimpArgs false
open Go.RowKit Go.Sort

theorem ltOf_cmpV (p q : Int × Int) : ltOf cmpV p q = decide (p.2 < q.2 ∨ (p.2 = q.2 ∧ p.1 < q.1)) := by
  unfold ltOf cmpV
  rcases vcmp_cases p.1 p.2 q.1 q.2 with ⟨h, e⟩ | ⟨h, e⟩ | ⟨h1, h2, e⟩ <;> rw [e] <;> simp <;> omega
theorem swoV : SWO (ltOf cmpV) where
  irrefl x := by rw [ltOf_cmpV]; simp
  trans x y z h1 h2 := by rw [ltOf_cmpV] at *; simp at *; omega
  ntrans x y z h1 h2 := by rw [ltOf_cmpV] at *; simp at *; omega
theorem totV (x y : Int × Int) (h1 : ltOf cmpV x y = false) (h2 : ltOf cmpV y x = false) : x = y := by
  rw [ltOf_cmpV] at *; simp at *
  have a : x.1 = y.1 := by omega
  have b : x.2 = y.2 := by omega
  exact Prod.ext a b

theorem cmpLaysV (blk off size : Nat) (w : World) : CmpLays Tryz.prog 118 #[] encV 2 cmpV blk off size w := by
  intro m os dk _ x y
  refine (compare_any x.1 x.2 y.1 y.2 _).calls.mono ?_
  rintro e _ ⟨rfl, z, rfl⟩
  exact ⟨rfl, grow_of_later z⟩

/-- What slices.Compact leaves of a list. -/
def compactV (l : List (Int × Int)) : List (Int × Int) := Lib.compactUpTo l.toArray l.length

theorem run_clear_row {P : Program} (w : World) (t e : TypeId) (z : Value) (k : Nat) (ht : P.underlying t = some (.slice e)) (hv : ∀ w, (zeroValue e).run P w = .ok z w) (hzs : z.cells.size = k) (hk0 : 0 < k) (h1 : ∀ u ∈ z.cells.toList, u.oneCell' = true) (b o n c : Nat) (hn : 0 < n)
    (hc : ∀ j, j < n * k → (w.cell? ⟨b, o + j, none⟩).isSome = true) (hf : ∀ j, j < n * k → w.frozen? ⟨b, o + j, none⟩ = false) :
    ∃ vs : List Value, vs.length = n * k ∧ ∀ ty, (Builtin.clear_ #[t] ty #[.slice (some ⟨b, o, none⟩) n c]).run P w = .ok (.tuple #[]) (w.setCells b o vs) := by
  have hlen : (Builtin.zeroCells z.cells n).toList.length = n * k := by rw [Array.length_toList, size_zeroCells, hzs]
  have hone : ∀ v ∈ (Builtin.zeroCells z.cells n).toList, v.oneCell' = true := by
    intro v hv'
    simp only [Builtin.zeroCells, Array.toList_map, List.mem_map] at hv'
    obtain ⟨i, _, rfl⟩ := hv'
    refine h1 _ ?_
    have hlt : i % z.cells.size < z.cells.size := Nat.mod_lt _ (by omega)
    rw [getElem!_pos z.cells (i % z.cells.size) hlt]
    exact Array.getElem_mem_toList hlt
  have hst := run_storeCells_cells (P := P) b o (Builtin.zeroCells z.cells n).toList 0 w (by rw [hlen]; simpa using hc) (by rw [hlen]; simpa using hf) hone
  simp only [Nat.add_zero] at hst
  obtain ⟨m, rfl⟩ : ∃ m, n = m + 1 := ⟨n - 1, by omega⟩
  exact ⟨_, hlen, fun ty => by simp [Builtin.clear_, run_underlying ht, hv, hst]⟩

def sortedV (l : List (Int × Int)) : List (Int × Int) := compactV (vsort l)
end Go.Proofs.YtkpnffokjpgalaaGreat
/- Plain law: the sort by insertion without doubles gives the sorted list without doubles. -/
namespace Go.Proofs.YtkpnffokjpgalaaGreat
set_option linter.unusedVariables false
set_option linter.unusedSimpArgs false
open Go.RowKit Go.Sort

/-- Strictly less: by the second, then by the first. -/
def ltV (p q : Int × Int) : Bool := lessB p.1 p.2 q.1 q.2
theorem ltV_iff (p q : Int × Int) : ltV p q = true ↔ (p.2 < q.2 ∨ (p.2 = q.2 ∧ p.1 < q.1)) := by
  unfold ltV lessB; simp
theorem ltV_trans {p q r : Int × Int} (h : ltV p q = true) (k : ltV q r = true) : ltV p r = true := by
  rw [ltV_iff] at *; omega
theorem ltV_irrefl (p : Int × Int) : ltV p p = false := by
  rw [Bool.eq_false_iff]; intro h; rw [ltV_iff] at h; omega
theorem ltV_tri {p q : Int × Int} (h : ltV p q = false) (k : p ≠ q) : ltV q p = true := by
  rw [Bool.eq_false_iff] at h
  rw [ne_eq, ltV_iff] at h
  rw [ltV_iff]
  by_cases e : p.2 = q.2
  · have : p.1 ≠ q.1 := fun f => k (Prod.ext f e)
    omega
  · omega
theorem strict_unique : ∀ (a b : List (Int × Int)), a.Pairwise (fun x y => ltV x y = true) → b.Pairwise (fun x y => ltV x y = true) → (∀ x, x ∈ a ↔ x ∈ b) → a = b
  | [], [], _, _, _ => rfl
  | [], y :: b, _, _, h => by have := (h y).2 (by simp); simp at this
  | x :: a, [], _, _, h => by have := (h x).1 (by simp); simp at this
  | x :: a, y :: b, ha, hb, h => by
    rw [List.pairwise_cons] at ha hb
    have hxy : x = y := by
      have h1 := (h x).1 (by simp)
      have h2 := (h y).2 (by simp)
      rw [List.mem_cons] at h1 h2
      rcases h1 with h1 | h1
      · exact h1
      · rcases h2 with h2 | h2
        · exact h2.symm
        · have := ltV_trans (hb.1 x h1) (ha.1 y h2)
          rw [ltV_irrefl] at this; cases this
    subst hxy
    congr 1
    refine strict_unique a b ha.2 hb.2 fun z => ⟨fun hz => ?_, fun hz => ?_⟩
    · have := (h z).1 (List.mem_cons_of_mem _ hz)
      rcases List.mem_cons.1 this with rfl | h3
      · have := ha.1 z hz
        rw [ltV_irrefl] at this; cases this
      · exact h3
    · have := (h z).2 (List.mem_cons_of_mem _ hz)
      rcases List.mem_cons.1 this with rfl | h3
      · have := hb.1 z hz
        rw [ltV_irrefl] at this; cases this
      · exact h3

/-- Not greater. -/
theorem leV_iff (p q : Int × Int) : leV p q = true ↔ ¬ (ltV q p = true) := by
  rw [ltV_iff]; unfold leV; rw [ltOf_cmpV]; simp only [Bool.not_eq_true', decide_eq_false_iff_not]
theorem vsort_sorted (l : List (Int × Int)) : (vsort l).Pairwise (fun x y => leV x y = true) := by
  unfold vsort
  refine List.pairwise_mergeSort ?_ ?_ l
  · intro a b c h k
    rw [leV_iff, ltV_iff] at *; omega
  · intro a b
    rw [Bool.or_eq_true, leV_iff, leV_iff, ltV_iff, ltV_iff]; omega
theorem compact_strict (l : List (Int × Int)) (hs : l.Pairwise (fun x y => leV x y = true)) : ∀ n, n ≤ l.length →
    (Lib.compactUpTo l.toArray n).Pairwise (fun x y => ltV x y = true) ∧ ∀ x, x ∈ Lib.compactUpTo l.toArray n ↔ x ∈ l.take n
  | 0, _ => by simp [Lib.compactUpTo]
  | n + 1, hn => by
    obtain ⟨h1, h2⟩ := compact_strict l hs n (by omega)
    have hg : l.toArray[n]! = l[n] := by simp [show n < l.length from hn]
    rw [Lib.compactUpTo_succ, hg]
    have hle : ∀ j (hj : j < n), leV l[j] l[n] = true := fun j hj => List.pairwise_iff_getElem.1 hs j n (by omega) hn hj
    by_cases hk : Lib.keeps l.toArray n = true
    · rw [if_pos hk]
      refine ⟨?_, ?_⟩
      · rw [List.pairwise_append]
        refine ⟨h1, by simp, ?_⟩
        intro x hx y hy
        rw [List.mem_singleton] at hy
        subst hy
        rw [h2, List.mem_take_iff_getElem] at hx
        obtain ⟨j, hj, rfl⟩ := hx
        have hjn : j < n := by omega
        have hne : l[n - 1] ≠ l[n] := by
          intro e
          have : Lib.keeps l.toArray n = false := Lib.keeps_neg (by omega) (by rw [hg]; simp [show n - 1 < l.length from by omega, e])
          rw [this] at hk; cases hk
        have a1 : leV l[j] l[n - 1] = true := by
          by_cases e : j = n - 1
          · subst e; rw [leV_iff, ltV_irrefl]; simp
          · exact List.pairwise_iff_getElem.1 hs j (n - 1) (by omega) (by omega) (by omega)
        have a2 := hle (n - 1) (by omega)
        rw [leV_iff, ltV_iff] at a1 a2
        have a3 : ltV l[n - 1] l[n] = true := by
          cases hb : ltV l[n - 1] l[n]
          · have := ltV_tri hb hne
            rw [ltV_iff] at this; omega
          · rfl
        rw [ltV_iff] at a3 ⊢
        omega
      · intro x
        rw [List.mem_append, h2, List.take_succ_eq_append_getElem hn, List.mem_append]
    · have hk : Lib.keeps l.toArray n = false := by simpa using hk
      rw [hk]
      have hn0 : 0 < n := by
        rcases Nat.eq_zero_or_pos n with rfl | h
        · rw [Lib.keeps_lt_one _ 0 (by omega)] at hk; cases hk
        · exact h
      have he : l[n - 1] = l[n] := by
        by_cases e : l[n - 1] = l[n]
        · exact e
        · have : Lib.keeps l.toArray n = true := Lib.keeps_pos (by rw [hg]; simp [show n - 1 < l.length from by omega]; exact fun h => e h.symm)
          rw [this] at hk; cases hk
      refine ⟨by simpa using h1, fun x => ?_⟩
      simp only [Bool.false_eq_true, if_false, List.append_nil]
      rw [List.take_succ_eq_append_getElem hn, List.mem_append, ← h2, List.mem_singleton]
      refine ⟨fun h => .inl h, ?_⟩
      rintro (h | rfl)
      · exact h
      · rw [h2, List.mem_take_iff_getElem]
        exact ⟨n - 1, by omega, he⟩
theorem sortedV_strict (l : List (Int × Int)) : (sortedV l).Pairwise (fun x y => ltV x y = true) ∧ ∀ x, x ∈ sortedV l ↔ x ∈ l := by
  obtain ⟨h1, h2⟩ := compact_strict (vsort l) (vsort_sorted l) (vsort l).length (Nat.le_refl _)
  refine ⟨h1, fun x => ?_⟩
  unfold sortedV compactV
  rw [h2, List.take_length]
  unfold vsort
  exact List.mem_mergeSort

/-- Where x belongs. -/
def posV (x : Int × Int) (out : List (Int × Int)) : Nat := (out.takeWhile (fun y => ltV y x)).length
/-- One more, if it isn't there. -/
def insV (out : List (Int × Int)) (x : Int × Int) : List (Int × Int) :=
  if out[posV x out]? = some x then out else out.take (posV x out) ++ x :: out.drop (posV x out)
theorem posV_is (x : Int × Int) (out : List (Int × Int)) (k : Nat) (hk : k ≤ out.length) (h : ∀ j (hj : j < k), ltV out[j] x = true) (hs : ∀ (hlt : k < out.length), ltV out[k] x = false) : posV x out = k := by
  unfold posV
  induction out generalizing k with
  | nil => simp at hk; simp [hk]
  | cons y out ih =>
    cases k with
    | zero =>
      have := hs (by simp)
      simp only [List.getElem_cons_zero] at this
      simp [this]
    | succ k =>
      have h0 := h 0 (by omega)
      simp only [List.getElem_cons_zero] at h0
      rw [List.takeWhile_cons, if_pos h0, List.length_cons, ih k (by simpa using hk) (fun j hj => by simpa using h (j + 1) (by omega)) (fun hlt => hs (Nat.succ_lt_succ hlt))]
theorem ins_strict (x : Int × Int) : ∀ out : List (Int × Int), out.Pairwise (fun x y => ltV x y = true) → (insV out x).Pairwise (fun x y => ltV x y = true) ∧ ∀ y, y ∈ insV out x ↔ y ∈ out ∨ y = x
  | [], _ => by simp [insV, posV]
  | z :: out, h => by
    rw [List.pairwise_cons] at h
    obtain ⟨i1, i2⟩ := ins_strict x out h.2
    cases hz : ltV z x with
    | true =>
      have e : insV (z :: out) x = z :: insV out x := by
        have hp : posV x (z :: out) = posV x out + 1 := by simp [posV, hz]
        unfold insV
        rw [hp]
        simp only [List.getElem?_cons_succ, List.take_succ_cons, List.drop_succ_cons]
        split <;> simp
      rw [e, List.pairwise_cons]
      refine ⟨⟨fun y hy => ?_, i1⟩, fun y => ?_⟩
      · rcases (i2 y).1 hy with hy | rfl
        · exact h.1 y hy
        · exact hz
      · rw [List.mem_cons, i2, List.mem_cons, or_assoc]
    | false =>
      have hp : posV x (z :: out) = 0 := by simp [posV, hz]
      unfold insV
      rw [hp]
      simp only [List.getElem?_cons_zero, Option.some.injEq, List.take_zero, List.drop_zero, List.nil_append]
      split
      · rename_i e
        subst e
        exact ⟨List.pairwise_cons.2 h, fun y => by simp only [List.mem_cons]; exact ⟨fun h => .inl h, fun h => h.elim id fun e => .inl e⟩⟩
      · rename_i e
        have hxz := ltV_tri hz e
        refine ⟨List.pairwise_cons.2 ⟨fun y hy => ?_, List.pairwise_cons.2 h⟩, fun y => by simp only [List.mem_cons]; exact ⟨fun h => h.elim .inr .inl, fun h => h.elim .inr .inl⟩⟩
        rcases List.mem_cons.1 hy with rfl | hy
        · exact hxz
        · exact ltV_trans hxz (h.1 y hy)
def rsortTo (l : List (Int × Int)) (k : Nat) : List (Int × Int) := (l.take k).foldl insV []
theorem rsortTo_succ (l : List (Int × Int)) (k : Nat) (h : k < l.length) : rsortTo l (k + 1) = insV (rsortTo l k) l[k] := by
  unfold rsortTo; rw [List.take_succ_eq_append_getElem h, List.foldl_append]; rfl
theorem rsortTo_strict (l : List (Int × Int)) : ∀ k, k ≤ l.length → (rsortTo l k).Pairwise (fun x y => ltV x y = true) ∧ ∀ x, x ∈ rsortTo l k ↔ x ∈ l.take k
  | 0, _ => by simp [rsortTo]
  | k + 1, hk => by
    obtain ⟨h1, h2⟩ := rsortTo_strict l k (by omega)
    rw [rsortTo_succ l k hk]
    obtain ⟨i1, i2⟩ := ins_strict l[k] (rsortTo l k) h1
    refine ⟨i1, fun x => ?_⟩
    rw [i2, h2, List.take_succ_eq_append_getElem hk, List.mem_append, List.mem_singleton]
theorem rsort_sorted (l : List (Int × Int)) : rsortTo l l.length = sortedV l := by
  obtain ⟨h1, h2⟩ := rsortTo_strict l l.length (Nat.le_refl _)
  obtain ⟨k1, k2⟩ := sortedV_strict l
  refine strict_unique _ _ h1 k1 fun x => ?_
  rw [h2, k2, List.take_length]
theorem rsortTo_length (l : List (Int × Int)) : ∀ k, k ≤ l.length → (rsortTo l k).length ≤ k
  | 0, _ => by simp [rsortTo]
  | k + 1, hk => by
    rw [rsortTo_succ l k hk]
    have := rsortTo_length l k (by omega)
    unfold insV
    split
    · omega
    · simp; omega

end Go.Proofs.YtkpnffokjpgalaaGreat
/- The reference's Sorted: insertion into a new list. -/
namespace Go.Proofs.YtkpnffokjpgalaaGreat
set_option linter.unusedVariables false
set_option linter.unusedSimpArgs false
set_option maxRecDepth 20000
open Go.RowKit Go.Sort

section
variable {α : Type} {enc : α → List Value} {k : Nat} {w w' : World} {g off c : Nat} {A : Option Addr} {l : List α}
theorem RowAt.grown {row : Option Nat} (h : RowAt enc k w g off l) (hg : w.grownBy w' row) (hne : some g ≠ row) : RowAt enc k w' g off l :=
  ⟨fun i hi j u hu => hg.cell (h.cells i hi j u hu) hne, h.there.elim fun q => ⟨⟨Nat.lt_of_lt_of_le q.lt hg.size⟩⟩⟩
theorem RowAt.take (h : RowAt enc k w g off l) (n : Nat) : RowAt enc k w g off (l.take n) :=
  ⟨fun i hi j u hu => h.cells i (by simp at hi; omega) j u (by simpa using hu), h.there⟩
theorem RowAt.drop (h : RowAt enc k w g off l) (n : Nat) : RowAt enc k w g (off + n * k) (l.drop n) :=
  ⟨fun i hi j u hu => by
    have hi' : n + i < l.length := by simp at hi; omega
    have := h.cells (n + i) hi' j u (by simpa using hu)
    rwa [Nat.add_mul, ← Nat.add_assoc] at this, h.there⟩
theorem IsRow.take (h : IsRow enc k w A c l) (n : Nat) : IsRow enc k w A c (l.take n) := by
  refine ⟨h.1, ?_⟩
  rcases h.2 with rfl | ⟨g, off, e, h⟩
  · exact .inl (by simp)
  · exact .inr ⟨g, off, e, h.take n⟩
theorem IsRow.drop (h : IsRow enc k w A c l) (hlc : l.length ≤ c) (n : Nat) : IsRow enc k w (if c = n then A else Option.map (fun x => x.add (n * k)) A) (c - n) (l.drop n) := by
  by_cases e : c = n
  · rw [if_pos e]
    exact ⟨fun _ => by omega, .inl (List.drop_eq_nil_of_le (by omega))⟩
  · rw [if_neg e]
    refine ⟨fun hA => ?_, ?_⟩
    · have : A = none := by simpa using hA
      have := h.1 this
      omega
    · rcases h.2 with rfl | ⟨g, off, rfl, hr⟩
      · exact .inl (by simp)
      · exact .inr ⟨g, off + n * k, by simp [add_none], hr.drop n⟩
end
theorem owns_empty (W : World) (b : Nat) (hb : b ≤ W.heap.size) : OwnVecs b (W.alloc (.cells #[] 25)) (some ⟨W.heap.size, 0, none⟩) 0 [] :=
  World.ownsRow_lit (base := b) (e := 25) (size := 2) W #[] 0 hb (Nat.zero_le _) rfl
theorem row_one (W : World) (x y : Int) : RowAt encV 2 (W.alloc (.cells #[.int .i64 x, .int .i64 y] 25)) W.heap.size 0 [(x, y)] := by
  refine ⟨fun i hi j u hu => ?_, inferInstance⟩
  obtain rfl : i = 0 := by simpa using hi
  match j, hu with
  | 0, hu => simp [encV] at hu; subst hu; simp
  | 1, hu => simp [encV] at hu; subst hu; simp
  | j + 2, hu => simp [encV] at hu
def hasV (out : List (Int × Int)) (p : Nat) (q : Int × Int) : Bool := decide (out[p]? = some q)
theorem Owns.le_cap {α : Type} {enc : α → List Value} {k base : Nat} {e : TypeId} {w : World} {A : Option Addr} {c : Nat} {l : List α} (h : Owns enc k base e w A c l) : l.length ≤ c := by
  obtain ⟨h1, h2⟩ := h
  rcases h2 with ⟨h2, h3⟩ | ⟨g, cap, cur, hv, hb, hg, hn, hm, hs, ht⟩
  · omega
  · simp only [Value.slice.injEq, true_and] at hv
    omega

set_option maxHeartbeats 2000000 in
theorem refSorted_any (A : Option Addr) (c : Nat) (l : List (Int × Int)) (w : World) (hl : IsVecs w A c l) (hn : l.length * 16 ≤ 140737488355328) :
    Calls Tryz.prog 95 #[.slice A l.length c] w fun e w' => ∃ A' c', e = .returned (.slice A' (sortedV l).length c') ∧ OwnVecs w.heap.size w' A' c' (sortedV l) ∧ SinceOf w w' := by
  have HL := Lib.hid hl
  clear hl
  obtain ⟨i0, hi, hz0, hz1, hz2⟩ := info_parts infoVec
  have HI0 := Lib.hid (And.intro hi (And.intro hz0 (And.intro hz1 hz2)))
  clear hi hz0 hz1 hz2
  go_enter Tryz.func95, Tryz.ntmps95
  go_wp2
  go_loopg [3, 4] l.length (fun m s3 s4 wr => ∃ (k : Nat) (A' : Option Addr) (c' : Nat), k ≤ l.length ∧ l.length - k ≤ m ∧ s4 = .int .i64 k ∧ s3 = .slice A' (rsortTo l k).length c' ∧ OwnVecs w.heap.size wr A' c' (rsortTo l k) ∧ SinceOf w wr)
  case atStart => exact ⟨0, none, 0, by omega, by omega, rfl, rfl, Owns.nil _ _ _ _ _, SinceOf.refl _⟩
  case round =>
    obtain ⟨k, A', c', hk, hm, rfl, rfl, hown, hsi⟩ := hrel
    by_cases hlt : k < l.length
    · have hlen := rsortTo_length l k hk
      have hs := rsortTo_succ l k hlt
      have hst := (rsortTo_strict l k hk).1
      generalize rsortTo l k = out at *
      obtain ⟨⟨x, y⟩, hx⟩ : ∃ q, q = l[k] := ⟨_, rfl⟩
      rw [← hx] at hs
      have H := Lib.hid (And.intro hs (And.intro hx (And.intro hst (And.intro hown hsi))))
      clear hs hst hx
      have hrow := hown.isRow encV_len
      have hlrow := HL.out.of hsi
      have H2 := Lib.hid (And.intro hrow hlrow)
      clear hown hsi hrow hlrow
      go_upto_block 2 with fail
      go_cut [5] (fun s5 wx => s5 = .int .i64 (posV (x, y) out) ∧ LaterOf wr wx)
      case first =>
        go_wp2_with fail
        go_loopg [5] out.length (fun n s5 wz => ∃ j : Nat, j ≤ out.length ∧ out.length - j ≤ n ∧ s5 = .int .i64 j ∧ LaterOf wr wz ∧ ∀ i (hi : i < j) (h2 : i < out.length), ltV out[i] (x, y) = true)
        case atStart => exact ⟨0, by omega, by omega, rfl, by (repeat (first | (with_reducible exact LaterOf.refl _) | (with_reducible refine LaterOf.alloc ?_ _) | (with_reducible refine LaterOf.drew ?_) | (with_reducible refine LaterOf.drewN ?_ _) | (with_reducible refine LaterOf.later ?_ _) | (with_reducible refine LaterOf.setCell ?_ (by first | exact Nat.le_refl _ | (simp; done) | omega | (simp; omega)) _))), by intro i hi; omega⟩
        case round =>
          obtain ⟨j, hj, hg, rfl, ⟨z, rfl⟩, hall⟩ := hrel
          have HA := Lib.hid hall
          clear hall
          by_cases hjl : j < out.length
          · obtain ⟨g, off, rfl, hr⟩ := (H2.out.1.later z).at_ (by omega)
            obtain ⟨g2, off2, rfl, hr2⟩ := (H2.out.2.later z).at_ (by omega)
            have hO := hr.there
            have hO2 := hr2.there
            have c0 := hr.v0 j hjl
            have c1 := hr.v1 j hjl
            have d0 := hr2.v0 k hlt
            have d1 := hr2.v1 k hlt
            clear hr hr2
            rw [← H.out.2.1] at d0 d1
            obtain ⟨⟨u, v⟩, hu⟩ : ∃ q, q = out[j] := ⟨_, rfl⟩
            rw [← hu] at c0 c1
            have B := Lib.hid hu
            clear hu
            simp only at c0 c1 d0 d1
            by_cases hless : lessB u v x y = true
            · go_wp2_with fail
              refine region_later (by kernel_rfl) (by kernel_rfl) ?_
              repeat (go_big_quiet_step ((first | refine Gives.later (refLess_any _ _ _ _ _))))
              refine wpQuiet_nil ?_
              rintro _ ⟨z2, rfl⟩
              go_wp2_with fail
              go_roundg (out.length - (j + 1))
              case measure => omega
              case rel =>
                refine ⟨j + 1, hjl, Nat.le_refl _, by go_num, by (repeat (first | (with_reducible exact LaterOf.refl _) | (with_reducible refine LaterOf.alloc ?_ _) | (with_reducible refine LaterOf.drew ?_) | (with_reducible refine LaterOf.drewN ?_ _) | (with_reducible refine LaterOf.later ?_ _) | (with_reducible refine LaterOf.setCell ?_ (by first | exact Nat.le_refl _ | (simp; done) | omega | (simp; omega)) _))), ?_⟩
                intro i hi h2
                by_cases e : i = j
                · subst e; rw [← B.out]; exact hless
                · exact HA.out i (by omega) h2
            · have hnl : lessB u v x y = false := by simpa using hless
              clear hless
              have hp : posV (x, y) out = j := posV_is _ _ _ hj (fun i hi => HA.out i hi (by omega)) (fun _ => by rw [← B.out]; exact hnl)
              have HP := Lib.hid hp
              clear hp
              go_wp2_with fail
              refine region_later (by kernel_rfl) (by kernel_rfl) ?_
              repeat (go_big_quiet_step ((first | refine Gives.later (refLess_any _ _ _ _ _))))
              refine wpQuiet_nil ?_
              rintro _ ⟨z2, rfl⟩
              go_wp2_with fail
              go_meet
              rw [HP.out]
              exact ⟨rfl, by (repeat (first | (with_reducible exact LaterOf.refl _) | (with_reducible refine LaterOf.alloc ?_ _) | (with_reducible refine LaterOf.drew ?_) | (with_reducible refine LaterOf.drewN ?_ _) | (with_reducible refine LaterOf.later ?_ _) | (with_reducible refine LaterOf.setCell ?_ (by first | exact Nat.le_refl _ | (simp; done) | omega | (simp; omega)) _)))⟩
          · have hj2 : j = out.length := by omega
            have hp : posV (x, y) out = j := posV_is _ _ _ hj (fun i hi => HA.out i hi (by omega)) (fun h => absurd h hjl)
            have HP := Lib.hid hp
            clear hp
            have hjb : ¬ j < out.length := hjl
            go_wp2_with fail
            refine region_later (by kernel_rfl) (by kernel_rfl) ?_
            repeat (go_big_quiet_step (fail))
            refine wpQuiet_nil ?_
            rintro _ ⟨z2, rfl⟩
            go_wp2_with fail
            go_meet
            rw [HP.out]
            exact ⟨rfl, by (repeat (first | (with_reducible exact LaterOf.refl _) | (with_reducible refine LaterOf.alloc ?_ _) | (with_reducible refine LaterOf.drew ?_) | (with_reducible refine LaterOf.drewN ?_ _) | (with_reducible refine LaterOf.later ?_ _) | (with_reducible refine LaterOf.setCell ?_ (by first | exact Nat.le_refl _ | (simp; done) | omega | (simp; omega)) _)))⟩
      case rest =>
        obtain ⟨rfl, ⟨z, rfl⟩⟩ := hcut
        have hple : posV (x, y) out ≤ out.length := by unfold posV; exact (List.takeWhile_sublist _).length_le
        have HI := Lib.hid (show insV out (x, y) = if out[posV (x, y) out]? = some (x, y) then out else out.take (posV (x, y) out) ++ (x, y) :: out.drop (posV (x, y) out) from rfl)
        generalize posV (x, y) out = p at *
        go_upto_region 9 with fail
        go_cut [43] (fun s43 wx => s43 = .bool (hasV out p (x, y)) ∧ LaterOf z.wd wx)
        case first =>
          by_cases hjl : p < out.length
          · obtain ⟨g, off, rfl, hr⟩ := (H2.out.1.later z).at_ (by omega)
            obtain ⟨g2, off2, rfl, hr2⟩ := (H2.out.2.later z).at_ (by omega)
            have hO := hr.there
            have hO2 := hr2.there
            have c0 := hr.v0 p hjl
            have c1 := hr.v1 p hjl
            have d0 := hr2.v0 k hlt
            have d1 := hr2.v1 k hlt
            clear hr hr2
            rw [← H.out.2.1] at d0 d1
            obtain ⟨⟨u, v⟩, hu⟩ : ∃ q, q = out[p] := ⟨_, rfl⟩
            rw [← hu] at c0 c1
            have hd : hasV out p (x, y) = eqv u v x y := by
              unfold hasV
              rw [List.getElem?_eq_getElem hjl, ← hu, Bool.eq_iff_iff, decide_eq_true_iff, eqv_iff]
              simp
            have B := Lib.hid hd
            clear hu hd
            simp only at c0 c1 d0 d1
            refine region_later (by kernel_rfl) (by kernel_rfl) ?_
            repeat (go_big_quiet_step (fail))
            refine wpQuiet_nil ?_
            rintro _ ⟨z2, rfl⟩
            go_wp2_with fail
            go_meet
            rw [B.out]
            exact ⟨rfl, by (repeat (first | (with_reducible exact LaterOf.refl _) | (with_reducible refine LaterOf.alloc ?_ _) | (with_reducible refine LaterOf.drew ?_) | (with_reducible refine LaterOf.drewN ?_ _) | (with_reducible refine LaterOf.later ?_ _) | (with_reducible refine LaterOf.setCell ?_ (by first | exact Nat.le_refl _ | (simp; done) | omega | (simp; omega)) _)))⟩
          · have hd : hasV out p (x, y) = false := by
              unfold hasV
              rw [decide_eq_false_iff_not, List.getElem?_eq_none (by omega)]; simp
            have B := Lib.hid hd
            clear hd
            refine region_later (by kernel_rfl) (by kernel_rfl) ?_
            repeat (go_big_quiet_step (fail))
            refine wpQuiet_nil ?_
            rintro _ ⟨z2, rfl⟩
            go_wp2_with fail
            go_meet
            rw [B.out]
            exact ⟨rfl, by (repeat (first | (with_reducible exact LaterOf.refl _) | (with_reducible refine LaterOf.alloc ?_ _) | (with_reducible refine LaterOf.drew ?_) | (with_reducible refine LaterOf.drewN ?_ _) | (with_reducible refine LaterOf.later ?_ _) | (with_reducible refine LaterOf.setCell ?_ (by first | exact Nat.le_refl _ | (simp; done) | omega | (simp; omega)) _)))⟩
        case rest =>
          obtain ⟨hv, ⟨z3, rfl⟩⟩ := hcut
          obtain ⟨h1, h2, h3, h4, h5⟩ := H.out
          have hs3 := (h5.later z).later z3
          have hown3 := h4.of (((SinceOf.refl wr).later z).later z3)
          clear h4 h5 H
          by_cases hd : out[p]? = some (x, y)
          · have hdb : hasV out p (x, y) = true := decide_eq_true hd
            rw [hdb] at hv
            subst hv
            clear hdb
            have e : rsortTo l (k + 1) = out := by rw [h1, HI.out, if_pos hd]
            have E := Lib.hid (And.intro e (And.intro hs3 hown3))
            clear h1 h2 h3 e hd hs3 hown3 H2
            go_wp2_with fail
            go_roundg (l.length - (k + 1))
            case measure => omega
            case rel =>
              refine ⟨k + 1, A', c', hlt, Nat.le_refl _, by go_num, ?_, ?_, E.out.2.1⟩
              · rw [E.out.1]
              · rw [E.out.1]; exact E.out.2.2
          · have hdb : hasV out p (x, y) = false := decide_eq_false hd
            rw [hdb] at hv
            subst hv
            clear hdb
            have e : rsortTo l (k + 1) = out.take p ++ (x, y) :: out.drop p := by rw [h1, HI.out, if_neg hd]
            have E := Lib.hid (And.intro e (And.intro hs3 hown3))
            have hcap := hown3.le_cap
            have hpc : p ≤ c' := by omega
            obtain ⟨g2, off2, rfl, hr2⟩ := ((H2.out.2.later z).later z3).at_ (by omega)
            have hO2 := hr2.there
            have d0 := hr2.v0 k hlt
            have d1 := hr2.v1 k hlt
            rw [← h2] at d0 d1
            simp only at d0 d1
            clear h1 h3 e hd hs3 hown3 hr2
            go_wp2_with fail
            obtain ⟨hi, hz0, hz1, hz2⟩ := HI0.out
            have hbz : w.heap.size ≤ z3.wd.heap.size := E.out.2.1.size
            have hrow3 := E.out.2.2.isRow encV_len
            have R3 := Lib.hid hrow3
            clear hrow3
            go_region_law ((first
              | (refine step_append_row rfl (.tmp 44) (.tmp 47) 22 rfl encV_len (by omega) encV_one i0 _ 16 Tryz.underlying22 hi hz0 hz1 hz2 rfl (l := []) (c := 0) (base := w.heap.size) rfl ?own (m := out.take p) (B := A') (d := c') ?hx ?hm ?h63 ?hby ?hbase ?_
                 case own => first | exact owns_empty _ _ hbz | exact (owns_empty _ _ hbz).alloc _ | (have q := owns_empty (z3.wd.alloc (.cells #[.int .i64 x, .int .i64 y] 25)) w.heap.size (by simp; omega); rw [show (z3.wd.alloc (.cells #[.int .i64 x, .int .i64 y] 25)).heap.size = z3.wd.heap.size + 1 from by simp] at q; exact q)
                 case hx => simp [Act.eval, hple]
                 case hm => exact (R3.out.take p).of (by (repeat (first | (with_reducible exact SinceOf.refl _) | (with_reducible assumption) | (with_reducible refine SinceOf.alloc ?_ _) | (with_reducible refine SinceOf.drew ?_) | (with_reducible refine SinceOf.drewN ?_ _) | (with_reducible refine SinceOf.later ?_ _) | (with_reducible refine SinceOf.further ?_ _) | (with_reducible refine SinceOf.setCell ?_ (by first | exact Nat.le_refl _ | (simp; done) | omega | (simp; omega)) _))))
                 case h63 => unfold maxLen; simp; omega
                 case hby => simp; omega
                 case hbase => simp; omega
                 intro A1 c1 w1 hown1 hgrow1 hb1
                 have hs1 : SinceOf z3.wd w1 := SinceOf.grown (by (repeat (first | (with_reducible exact SinceOf.refl _) | (with_reducible assumption) | (with_reducible refine SinceOf.alloc ?_ _) | (with_reducible refine SinceOf.drew ?_) | (with_reducible refine SinceOf.drewN ?_ _) | (with_reducible refine SinceOf.later ?_ _) | (with_reducible refine SinceOf.further ?_ _) | (with_reducible refine SinceOf.setCell ?_ (by first | exact Nat.le_refl _ | (simp; done) | omega | (simp; omega)) _)))) hgrow1 (by intro q hq; simp [blockOf] at hq; omega)
                 have d0w : w1.cell? ⟨g2, off2 + k * 2, none⟩ = some (.int .i64 x) := hgrow1.cell (by simp [go_sem, d0]) (by simp [blockOf]; have := hO2.elim fun q => q.lt; omega)
                 have d1w : w1.cell? ⟨g2, off2 + k * 2 + 1, none⟩ = some (.int .i64 y) := hgrow1.cell (by simp [go_sem, d1]) (by simp [blockOf]; have := hO2.elim fun q => q.lt; omega))
              | (refine step_append_row rfl (.tmp 48) (.tmp 53) 22 rfl encV_len (by omega) encV_one i0 _ 16 Tryz.underlying22 hi hz0 hz1 hz2 rfl (l := [] ++ out.take p) (A := A1) (c := c1) (base := w.heap.size) ?hs ?own (m := [(x, y)]) rfl ?hm ?h63 ?hby ?hbase ?_
                 case hs => simp [Act.eval, hple]
                 case own => first | exact hown1.alloc _ | exact hown1
                 case hm => first
                   | exact ⟨(by intro h; cases h), .inr ⟨_, _, rfl, row_one _ _ _⟩⟩
                   | exact ⟨(by intro h; cases h), .inr ⟨_, _, rfl, RowAt.grown (RowAt.of (row_one z3.wd x y) (by (repeat (first | (with_reducible exact SinceOf.refl _) | (with_reducible assumption) | (with_reducible refine SinceOf.alloc ?_ _) | (with_reducible refine SinceOf.drew ?_) | (with_reducible refine SinceOf.drewN ?_ _) | (with_reducible refine SinceOf.later ?_ _) | (with_reducible refine SinceOf.further ?_ _) | (with_reducible refine SinceOf.setCell ?_ (by first | exact Nat.le_refl _ | (simp; done) | omega | (simp; omega)) _))))) hgrow1 (by simp [blockOf])⟩⟩
                   | (have q := row_one (z3.wd.alloc (.cells #[] 25)) x y
                      rw [show (z3.wd.alloc (.cells #[] 25)).heap.size = z3.wd.heap.size + 1 from by simp] at q
                      exact ⟨(by intro h; cases h), .inr ⟨_, _, rfl, RowAt.grown (RowAt.of q (by (repeat (first | (with_reducible exact SinceOf.refl _) | (with_reducible assumption) | (with_reducible refine SinceOf.alloc ?_ _) | (with_reducible refine SinceOf.drew ?_) | (with_reducible refine SinceOf.drewN ?_ _) | (with_reducible refine SinceOf.later ?_ _) | (with_reducible refine SinceOf.further ?_ _) | (with_reducible refine SinceOf.setCell ?_ (by first | exact Nat.le_refl _ | (simp; done) | omega | (simp; omega)) _))))) hgrow1 (by simp [blockOf])⟩⟩)
                 case h63 => unfold maxLen; simp; omega
                 case hby => simp; omega
                 case hbase => first | (have := hgrow1.size; simp at this ⊢; omega)
                 intro A2 c2 w2 hown2 hgrow2 hb2
                 have hs2 : SinceOf z3.wd w2 := SinceOf.grown (by (repeat (first | (with_reducible exact SinceOf.refl _) | (with_reducible assumption) | (with_reducible refine SinceOf.alloc ?_ _) | (with_reducible refine SinceOf.drew ?_) | (with_reducible refine SinceOf.drewN ?_ _) | (with_reducible refine SinceOf.later ?_ _) | (with_reducible refine SinceOf.further ?_ _) | (with_reducible refine SinceOf.setCell ?_ (by first | exact Nat.le_refl _ | (simp; done) | omega | (simp; omega)) _)))) hgrow2 (by intro q hq; rw [hq] at hb1; simp [blockOf] at hb1; omega))
              | (refine step_append_row rfl (.tmp 54) (.tmp 57) 22 rfl encV_len (by omega) encV_one i0 _ 16 Tryz.underlying22 hi hz0 hz1 hz2 rfl (l := [] ++ out.take p ++ [(x, y)]) (A := A2) (c := c2) (base := w.heap.size) ?hs ?own (m := out.drop p) (B := if c' = p then A' else Option.map (fun x => x.add (p * 2)) A') (d := c' - p) ?hx ?hm ?h63 ?hby ?hbase ?_
                 case hs => simp [Act.eval, hple]
                 case own => exact hown2
                 case hx => simp [Act.eval]
                 case hm => exact (R3.out.drop hcap p).of (by (repeat (first | (with_reducible exact SinceOf.refl _) | (with_reducible assumption) | (with_reducible refine SinceOf.alloc ?_ _) | (with_reducible refine SinceOf.drew ?_) | (with_reducible refine SinceOf.drewN ?_ _) | (with_reducible refine SinceOf.later ?_ _) | (with_reducible refine SinceOf.further ?_ _) | (with_reducible refine SinceOf.setCell ?_ (by first | exact Nat.le_refl _ | (simp; done) | omega | (simp; omega)) _))))
                 case h63 => unfold maxLen; simp; omega
                 case hby => simp; omega
                 case hbase => have := hs2.size; simp at this ⊢; omega
                 intro A3 c3 w3 hown3 hgrow3 hb3
                 have hs3 : SinceOf z3.wd w3 := SinceOf.grown (by (repeat (first | (with_reducible exact SinceOf.refl _) | (with_reducible assumption) | (with_reducible refine SinceOf.alloc ?_ _) | (with_reducible refine SinceOf.drew ?_) | (with_reducible refine SinceOf.drewN ?_ _) | (with_reducible refine SinceOf.later ?_ _) | (with_reducible refine SinceOf.further ?_ _) | (with_reducible refine SinceOf.setCell ?_ (by first | exact Nat.le_refl _ | (simp; done) | omega | (simp; omega)) _)))) hgrow3 (by
                   have h1 := hs1.size
                   intro q hq; rw [hq] at hb3; rw [hq] at hb2
                   rcases hb2 with h | h
                   · rw [← h] at hb1; simp [blockOf] at hb1; omega
                   · simp at h; omega))))
            all_goals go_wp2_with fail
            all_goals go_roundg (l.length - (k + 1))
            all_goals first
              | omega
              | (refine ⟨k + 1, A3, c3, hlt, Nat.le_refl _, by go_num, ?_, ?_, E.out.2.1.trans hs3⟩
                 · rw [E.out.1]; simp [hple]; omega
                 · rw [E.out.1]; simpa using hown3)
    · have hkl : k = l.length := by omega
      have hl2 := rsort_sorted l
      rw [← hkl] at hl2
      have E := Lib.hid (And.intro hl2 (And.intro hown hsi))
      clear hl2 hown hsi
      go_wp2_with fail
      go_returns
      refine ⟨A', c', ?_, ?_, E.out.2.2⟩
      · rw [E.out.1]; rfl
      · rw [← E.out.1]; exact E.out.2.1

end Go.Proofs.YtkpnffokjpgalaaGreat
