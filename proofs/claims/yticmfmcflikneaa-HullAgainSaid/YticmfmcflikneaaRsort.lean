/- Plain law: the sort by insertion without doubles gives the sorted list without doubles. -/
import Derived.Test.YticmfmcflikneaaSorted
namespace Go.Proofs.Yticmfmcflikneaa
open Go.RowKit Go.Sort
set_option linter.unusedVariables false

/-- Strictly less: by the second, then by the first. -/
def ltV (p q : Int × Int) : Bool := lessB p.1 p.2 q.1 q.2
theorem ltV_iff (p q : Int × Int) : ltV p q = true ↔ (p.2 < q.2 ∨ (p.2 = q.2 ∧ p.1 < q.1)) := by
  unfold ltV lessB; simp
theorem ltV_trans {p q r : Int × Int} (h : ltV p q = true) (k : ltV q r = true) : ltV p r = true := by
  rw [ltV_iff] at *; omega
theorem ltV_irrefl (p : Int × Int) : ltV p p = false := by
  rw [Bool.eq_false_iff]; intro h; rw [ltV_iff] at h; omega
theorem ltV_tri {p q : Int × Int} (h : ltV p q = false) (k : p ≠ q) : ltV q p = true := by
  rw [Bool.eq_false_iff] at h
  rw [ne_eq, ltV_iff] at h
  rw [ltV_iff]
  by_cases e : p.2 = q.2
  · have : p.1 ≠ q.1 := fun f => k (Prod.ext f e)
    omega
  · omega
theorem strict_unique : ∀ (a b : List (Int × Int)), a.Pairwise (fun x y => ltV x y = true) → b.Pairwise (fun x y => ltV x y = true) → (∀ x, x ∈ a ↔ x ∈ b) → a = b
  | [], [], _, _, _ => rfl
  | [], y :: b, _, _, h => by have := (h y).2 (by simp); simp at this
  | x :: a, [], _, _, h => by have := (h x).1 (by simp); simp at this
  | x :: a, y :: b, ha, hb, h => by
    rw [List.pairwise_cons] at ha hb
    have hxy : x = y := by
      have h1 := (h x).1 (by simp)
      have h2 := (h y).2 (by simp)
      rw [List.mem_cons] at h1 h2
      rcases h1 with h1 | h1
      · exact h1
      · rcases h2 with h2 | h2
        · exact h2.symm
        · have := ltV_trans (hb.1 x h1) (ha.1 y h2)
          rw [ltV_irrefl] at this; cases this
    subst hxy
    congr 1
    refine strict_unique a b ha.2 hb.2 fun z => ⟨fun hz => ?_, fun hz => ?_⟩
    · have := (h z).1 (List.mem_cons_of_mem _ hz)
      rcases List.mem_cons.1 this with rfl | h3
      · have := ha.1 z hz
        rw [ltV_irrefl] at this; cases this
      · exact h3
    · have := (h z).2 (List.mem_cons_of_mem _ hz)
      rcases List.mem_cons.1 this with rfl | h3
      · have := hb.1 z hz
        rw [ltV_irrefl] at this; cases this
      · exact h3

/-- Not greater. -/
theorem leV_iff (p q : Int × Int) : leV p q = true ↔ ¬ (ltV q p = true) := by
  rw [ltV_iff]; unfold leV; rw [ltOf_cmpV]; simp only [Bool.not_eq_true', decide_eq_false_iff_not]
theorem vsort_sorted (l : List (Int × Int)) : (vsort l).Pairwise (fun x y => leV x y = true) := by
  unfold vsort
  refine List.pairwise_mergeSort ?_ ?_ l
  · intro a b c h k
    rw [leV_iff, ltV_iff] at *; omega
  · intro a b
    rw [Bool.or_eq_true, leV_iff, leV_iff, ltV_iff, ltV_iff]; omega
theorem compact_strict (l : List (Int × Int)) (hs : l.Pairwise (fun x y => leV x y = true)) : ∀ n, n ≤ l.length →
    (Lib.compactUpTo l.toArray n).Pairwise (fun x y => ltV x y = true) ∧ ∀ x, x ∈ Lib.compactUpTo l.toArray n ↔ x ∈ l.take n
  | 0, _ => by simp [Lib.compactUpTo]
  | n + 1, hn => by
    obtain ⟨h1, h2⟩ := compact_strict l hs n (by omega)
    have hg : l.toArray[n]! = l[n] := by simp [show n < l.length from hn]
    rw [Lib.compactUpTo_succ, hg]
    have hle : ∀ j (hj : j < n), leV l[j] l[n] = true := fun j hj => List.pairwise_iff_getElem.1 hs j n (by omega) hn hj
    by_cases hk : Lib.keeps l.toArray n = true
    · rw [if_pos hk]
      refine ⟨?_, ?_⟩
      · rw [List.pairwise_append]
        refine ⟨h1, by simp, ?_⟩
        intro x hx y hy
        rw [List.mem_singleton] at hy
        subst hy
        rw [h2, List.mem_take_iff_getElem] at hx
        obtain ⟨j, hj, rfl⟩ := hx
        have hjn : j < n := by omega
        have hne : l[n - 1] ≠ l[n] := by
          intro e
          have : Lib.keeps l.toArray n = false := Lib.keeps_neg (by omega) (by rw [hg]; simp [show n - 1 < l.length from by omega, e])
          rw [this] at hk; cases hk
        have a1 : leV l[j] l[n - 1] = true := by
          by_cases e : j = n - 1
          · subst e; rw [leV_iff, ltV_irrefl]; simp
          · exact List.pairwise_iff_getElem.1 hs j (n - 1) (by omega) (by omega) (by omega)
        have a2 := hle (n - 1) (by omega)
        rw [leV_iff, ltV_iff] at a1 a2
        have a3 : ltV l[n - 1] l[n] = true := by
          cases hb : ltV l[n - 1] l[n]
          · have := ltV_tri hb hne
            rw [ltV_iff] at this; omega
          · rfl
        rw [ltV_iff] at a3 ⊢
        omega
      · intro x
        rw [List.mem_append, h2, List.take_succ_eq_append_getElem hn, List.mem_append]
    · have hk : Lib.keeps l.toArray n = false := by simpa using hk
      rw [hk]
      have hn0 : 0 < n := by
        rcases Nat.eq_zero_or_pos n with rfl | h
        · rw [Lib.keeps_lt_one _ 0 (by omega)] at hk; cases hk
        · exact h
      have he : l[n - 1] = l[n] := by
        by_cases e : l[n - 1] = l[n]
        · exact e
        · have : Lib.keeps l.toArray n = true := Lib.keeps_pos (by rw [hg]; simp [show n - 1 < l.length from by omega]; exact fun h => e h.symm)
          rw [this] at hk; cases hk
      refine ⟨by simpa using h1, fun x => ?_⟩
      simp only [Bool.false_eq_true, if_false, List.append_nil]
      rw [List.take_succ_eq_append_getElem hn, List.mem_append, ← h2, List.mem_singleton]
      refine ⟨fun h => .inl h, ?_⟩
      rintro (h | rfl)
      · exact h
      · rw [h2, List.mem_take_iff_getElem]
        exact ⟨n - 1, by omega, he⟩
theorem sortedV_strict (l : List (Int × Int)) : (sortedV l).Pairwise (fun x y => ltV x y = true) ∧ ∀ x, x ∈ sortedV l ↔ x ∈ l := by
  obtain ⟨h1, h2⟩ := compact_strict (vsort l) (vsort_sorted l) (vsort l).length (Nat.le_refl _)
  refine ⟨h1, fun x => ?_⟩
  unfold sortedV compactV
  rw [h2, List.take_length]
  unfold vsort
  exact List.mem_mergeSort

/-- Where x belongs. -/
def posV (x : Int × Int) (out : List (Int × Int)) : Nat := (out.takeWhile (fun y => ltV y x)).length
/-- One more, if it isn't there. -/
def insV (out : List (Int × Int)) (x : Int × Int) : List (Int × Int) :=
  if out[posV x out]? = some x then out else out.take (posV x out) ++ x :: out.drop (posV x out)
theorem posV_is (x : Int × Int) (out : List (Int × Int)) (k : Nat) (hk : k ≤ out.length) (h : ∀ j (hj : j < k), ltV out[j] x = true) (hs : ∀ (hlt : k < out.length), ltV out[k] x = false) : posV x out = k := by
  unfold posV
  induction out generalizing k with
  | nil => simp at hk; simp [hk]
  | cons y out ih =>
    cases k with
    | zero =>
      have := hs (by simp)
      simp only [List.getElem_cons_zero] at this
      simp [this]
    | succ k =>
      have h0 := h 0 (by omega)
      simp only [List.getElem_cons_zero] at h0
      rw [List.takeWhile_cons, if_pos h0, List.length_cons, ih k (by simpa using hk) (fun j hj => by simpa using h (j + 1) (by omega)) (fun hlt => hs (Nat.succ_lt_succ hlt))]
theorem ins_strict (x : Int × Int) : ∀ out : List (Int × Int), out.Pairwise (fun x y => ltV x y = true) → (insV out x).Pairwise (fun x y => ltV x y = true) ∧ ∀ y, y ∈ insV out x ↔ y ∈ out ∨ y = x
  | [], _ => by simp [insV, posV]
  | z :: out, h => by
    rw [List.pairwise_cons] at h
    obtain ⟨i1, i2⟩ := ins_strict x out h.2
    cases hz : ltV z x with
    | true =>
      have e : insV (z :: out) x = z :: insV out x := by
        have hp : posV x (z :: out) = posV x out + 1 := by simp [posV, hz]
        unfold insV
        rw [hp]
        simp only [List.getElem?_cons_succ, List.take_succ_cons, List.drop_succ_cons]
        split <;> simp
      rw [e, List.pairwise_cons]
      refine ⟨⟨fun y hy => ?_, i1⟩, fun y => ?_⟩
      · rcases (i2 y).1 hy with hy | rfl
        · exact h.1 y hy
        · exact hz
      · rw [List.mem_cons, i2, List.mem_cons, or_assoc]
    | false =>
      have hp : posV x (z :: out) = 0 := by simp [posV, hz]
      unfold insV
      rw [hp]
      simp only [List.getElem?_cons_zero, Option.some.injEq, List.take_zero, List.drop_zero, List.nil_append]
      split
      · rename_i e
        subst e
        exact ⟨List.pairwise_cons.2 h, fun y => by simp only [List.mem_cons]; exact ⟨fun h => .inl h, fun h => h.elim id fun e => .inl e⟩⟩
      · rename_i e
        have hxz := ltV_tri hz e
        refine ⟨List.pairwise_cons.2 ⟨fun y hy => ?_, List.pairwise_cons.2 h⟩, fun y => by simp only [List.mem_cons]; exact ⟨fun h => h.elim .inr .inl, fun h => h.elim .inr .inl⟩⟩
        rcases List.mem_cons.1 hy with rfl | hy
        · exact hxz
        · exact ltV_trans hxz (h.1 y hy)
def rsortTo (l : List (Int × Int)) (k : Nat) : List (Int × Int) := (l.take k).foldl insV []
theorem rsortTo_succ (l : List (Int × Int)) (k : Nat) (h : k < l.length) : rsortTo l (k + 1) = insV (rsortTo l k) l[k] := by
  unfold rsortTo; rw [List.take_succ_eq_append_getElem h, List.foldl_append]; rfl
theorem rsortTo_strict (l : List (Int × Int)) : ∀ k, k ≤ l.length → (rsortTo l k).Pairwise (fun x y => ltV x y = true) ∧ ∀ x, x ∈ rsortTo l k ↔ x ∈ l.take k
  | 0, _ => by simp [rsortTo]
  | k + 1, hk => by
    obtain ⟨h1, h2⟩ := rsortTo_strict l k (by omega)
    rw [rsortTo_succ l k hk]
    obtain ⟨i1, i2⟩ := ins_strict l[k] (rsortTo l k) h1
    refine ⟨i1, fun x => ?_⟩
    rw [i2, h2, List.take_succ_eq_append_getElem hk, List.mem_append, List.mem_singleton]
theorem rsort_sorted (l : List (Int × Int)) : rsortTo l l.length = sortedV l := by
  obtain ⟨h1, h2⟩ := rsortTo_strict l l.length (Nat.le_refl _)
  obtain ⟨k1, k2⟩ := sortedV_strict l
  refine strict_unique _ _ h1 k1 fun x => ?_
  rw [h2, k2, List.take_length]
theorem rsortTo_length (l : List (Int × Int)) : ∀ k, k ≤ l.length → (rsortTo l k).length ≤ k
  | 0, _ => by simp [rsortTo]
  | k + 1, hk => by
    rw [rsortTo_succ l k hk]
    have := rsortTo_length l k (by omega)
    unfold insV
    split
    · omega
    · simp; omega

end Go.Proofs.Yticmfmcflikneaa
