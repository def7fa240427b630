/- Layer 46 (plain): the edges with gaps, as the program and as the reference choose them. -/
import Derived.Test.YtkpnffokjpgalaaGreatKStb7
import Derived.Test.YtkpnffokjpgalaaGreatKJntQ1
namespace Go.Proofs.YtkpnffokjpgalaaGreat
set_option linter.unusedVariables false
set_option linter.unusedSimpArgs false

def ltI (E : Int → Int) (i k : Int) : Bool := decide (E k < E i ∨ E i = E k ∧ i < k)
theorem ltT_I (E : Int → Int) (x y : Pt) : ltT E x y = ltI E x.1 y.1 := rfl
def idxs (n : Nat) : List Int := (List.range n).map fun i : Nat => (i : Int)
theorem idxs_len (n : Nat) : (idxs n).length = n := by simp [idxs]
theorem idxs_mem {n : Nat} {x : Int} : x ∈ idxs n ↔ 0 ≤ x ∧ x < n := by
  unfold idxs
  simp only [List.mem_map, List.mem_range]
  constructor
  · rintro ⟨i, h, rfl⟩; omega
  · rintro ⟨h1, h2⟩; exact ⟨x.toNat, by omega, by omega⟩
theorem idxs_asc (n : Nat) : (idxs n).Pairwise (· < ·) := by
  unfold idxs
  rw [List.pairwise_map]
  exact List.pairwise_lt_range.imp (fun h => by omega)
theorem asc_nodup {l : List Int} (h : l.Pairwise (· < ·)) : l.Nodup := h.imp (fun h => by omega)
/-- The edges that have three steps. -/
def longI (E : Int → Int) (n : Nat) : List Int := (idxs n).filter fun i => decide (3 ≤ E i)
/-- How many edges come ahead of one. -/
def aheadI (E : Int → Int) (n : Nat) (i : Int) : Nat := ((idxs n).filter fun k => ltI E k i).length
/-- The edges that get gaps. -/
def pickI (E : Int → Int) (n m : Nat) : List Int := (idxs n).filter fun i => decide (aheadI E n i < m)
theorem longI_mem {E : Int → Int} {n : Nat} {x : Int} : x ∈ longI E n ↔ (0 ≤ x ∧ x < n) ∧ 3 ≤ E x := by unfold longI; rw [List.mem_filter, idxs_mem, decide_eq_true_eq]
theorem pickI_mem {E : Int → Int} {n m : Nat} {x : Int} : x ∈ pickI E n m ↔ (0 ≤ x ∧ x < n) ∧ aheadI E n x < m := by unfold pickI; rw [List.mem_filter, idxs_mem, decide_eq_true_eq]
theorem longI_asc (E : Int → Int) (n : Nat) : (longI E n).Pairwise (· < ·) := (idxs_asc n).filter _
theorem pickI_asc (E : Int → Int) (n m : Nat) : (pickI E n m).Pairwise (· < ·) := (idxs_asc n).filter _
theorem ltI_total {E : Int → Int} {i k : Int} (h : i ≠ k) (h1 : ltI E k i = false) : ltI E i k = true := by
  unfold ltI at *
  simp only [decide_eq_true_eq, decide_eq_false_iff_not] at *
  omega
theorem ltI_asym {E : Int → Int} {i k : Int} (h : ltI E i k = true) : ltI E k i = false := by
  unfold ltI at *
  simp only [decide_eq_true_eq, decide_eq_false_iff_not] at *
  omega
theorem ltI_irrefl (E : Int → Int) (i : Int) : ltI E i i = false := by
  unfold ltI
  simp
section
variable {E : Int → Int} {n m : Nat} {L : List Int}
/-- The place of an edge among the sorted ones is the number of those ahead of it. -/
theorem ahead_place (hp : L.Perm (longI E n)) (hs : L.Pairwise fun x y => ltI E y x = false) {q : Nat} (hq : q < L.length) : aheadI E n L[q] = q := by
  have hnd : L.Nodup := hp.nodup_iff.2 (asc_nodup (longI_asc E n))
  have hx : L[q] ∈ longI E n := hp.mem_iff.1 (List.getElem_mem hq)
  have hx3 := (longI_mem.1 hx).2
  have key : ((idxs n).filter fun k => ltI E k L[q]).Perm (L.take q) := by
    rw [List.perm_ext_iff_of_nodup ((asc_nodup (idxs_asc n)).sublist List.filter_sublist) (hnd.sublist (List.take_sublist _ _))]
    intro a
    rw [List.mem_filter, idxs_mem]
    constructor
    · rintro ⟨ha, hl⟩
      have hal : a ∈ longI E n := by
        rw [longI_mem]
        refine ⟨ha, ?_⟩
        unfold ltI at hl
        simp only [decide_eq_true_eq] at hl
        omega
      obtain ⟨t, ht, rfl⟩ := List.mem_iff_getElem.1 (hp.mem_iff.2 hal)
      rcases Nat.lt_trichotomy t q with c | c | c
      · rw [List.mem_take_iff_getElem]
        exact ⟨t, by omega, rfl⟩
      · subst c; rw [ltI_irrefl] at hl; cases hl
      · have := List.pairwise_iff_getElem.1 hs q t hq ht c
        rw [this] at hl; cases hl
    · intro ha
      rw [List.mem_take_iff_getElem] at ha
      obtain ⟨t, ht, rfl⟩ := ha
      have htl : t < L.length := by omega
      have hm := (longI_mem.1 (hp.mem_iff.1 (List.getElem_mem htl))).1
      refine ⟨hm, ?_⟩
      have h1 := List.pairwise_iff_getElem.1 hs t q htl hq (by omega)
      refine ltI_total (fun e => ?_) h1
      have := (List.getElem_inj hnd).1 e
      omega
  unfold aheadI
  rw [key.length_eq, List.length_take]
  omega
theorem ahead_short (hp : L.Perm (longI E n)) {x : Int} (hx : E x < 3) : L.length ≤ aheadI E n x := by
  rw [hp.length_eq]
  unfold aheadI
  refine List.Nodup.length_le_of_subset (asc_nodup (longI_asc E n)) (fun a ha => ?_)
  obtain ⟨h1, h2⟩ := longI_mem.1 ha
  rw [List.mem_filter, idxs_mem]
  refine ⟨h1, ?_⟩
  unfold ltI
  simp only [decide_eq_true_eq]
  omega
/-- The first m of the sorted edges are those with fewer than m ahead. -/
theorem pick_perm (hp : L.Perm (longI E n)) (hs : L.Pairwise fun x y => ltI E y x = false) (hm : m ≤ L.length) : (pickI E n m).Perm (L.take m) := by
  have hnd : L.Nodup := hp.nodup_iff.2 (asc_nodup (longI_asc E n))
  rw [List.perm_ext_iff_of_nodup (asc_nodup (pickI_asc E n m)) (hnd.sublist (List.take_sublist _ _))]
  intro a
  rw [pickI_mem, List.mem_take_iff_getElem]
  constructor
  · rintro ⟨ha, hl⟩
    have h3 : 3 ≤ E a := by
      rcases Int.lt_or_le (E a) 3 with c | c
      · have := ahead_short hp c; omega
      · exact c
    obtain ⟨t, ht, rfl⟩ := List.mem_iff_getElem.1 (hp.mem_iff.2 (longI_mem.2 ⟨ha, h3⟩))
    rw [ahead_place hp hs ht] at hl
    exact ⟨t, by omega, rfl⟩
  · rintro ⟨t, ht, rfl⟩
    have htl : t < L.length := by omega
    exact ⟨(longI_mem.1 (hp.mem_iff.1 (List.getElem_mem htl))).1, by rw [ahead_place hp hs htl]; omega⟩
theorem pick_sorted (hp : L.Perm (longI E n)) (hs : L.Pairwise fun x y => ltI E y x = false) (hm : m ≤ L.length) : ((L.take m).mergeSort fun x y => decide (x ≤ y)) = pickI E n m := by
  refine List.Perm.eq_of_pairwise (le := fun x y => x ≤ y) (fun a b _ _ h1 h2 => by omega) ?_ ((pickI_asc E n m).imp (fun h => by omega)) ((List.mergeSort_perm _ _).trans (pick_perm hp hs hm).symm)
  have := List.pairwise_mergeSort (le := fun x y : Int => decide (x ≤ y)) (fun a b c h1 h2 => by simp only [decide_eq_true_eq] at *; omega) (fun a b => by simp only [Bool.or_eq_true, decide_eq_true_eq]; omega) (L.take m)
  exact this.imp (fun h => by simpa using h)
theorem pick_long (hm : m ≤ (longI E n).length) (hp : L.Perm (longI E n)) (hs : L.Pairwise fun x y => ltI E y x = false) : (pickI E n m).length = m ∧ ∀ x ∈ pickI E n m, 3 ≤ E x := by
  have hm' : m ≤ L.length := by rw [hp.length_eq]; exact hm
  have h := pick_perm hp hs hm'
  refine ⟨by rw [h.length_eq, List.length_take]; omega, fun x hx => ?_⟩
  exact (longI_mem.1 (hp.mem_iff.1 (List.mem_of_mem_take (h.mem_iff.1 hx)))).2
theorem pick_few (hm : (longI E n).length < m) (h : ∀ x ∈ pickI E n m, 3 ≤ E x) : (pickI E n m).length < m := by
  have : (pickI E n m).length ≤ (longI E n).length := List.Nodup.length_le_of_subset (asc_nodup (pickI_asc E n m)) (fun a ha => longI_mem.2 ⟨(pickI_mem.1 ha).1, h a ha⟩)
  omega
end
/-- The gap on an edge. -/
def gapOf (s : SegP) : SegP := (pointK s.1 s.2 ((stepsI s - 1) / 2), pointK s.1 s.2 ((stepsI s - 1) / 2 + 1))
def gapAt (S : List SegP) (i : Int) : SegP := gapOf (S.getD i.toNat noSeg)
/-- What the gaps of a list of edges are, and the error's number. -/
def gapsL (S : List SegP) (m : Nat) : List SegP × Int :=
  if (pickI (keyQ S) S.length m).all (fun i => decide (3 ≤ keyQ S i)) && decide (m ≤ (pickI (keyQ S) S.length m).length) then ((pickI (keyQ S) S.length m).map (gapAt S), 0) else ([], 8)
def gapsR (r : List Pt) (n : Int) : List SegP × Int := if okB r then (if n < 0 ∨ 10 < n then ([], 2) else gapsL (edgesV r) n.toNat) else ([], 11)
theorem gapsL_few {S : List SegP} {m : Nat} (h : (longI (keyQ S) S.length).length < m) : gapsL S m = ([], 8) := by
  unfold gapsL
  rw [if_neg]
  rw [Bool.and_eq_true, List.all_eq_true, decide_eq_true_eq]
  rintro ⟨h1, h2⟩
  have := pick_few h (fun x hx => of_decide_eq_true (h1 x hx))
  omega
theorem gapsL_some {S : List SegP} {m : Nat} {L : List Int} (h : m ≤ (longI (keyQ S) S.length).length) (hp : L.Perm (longI (keyQ S) S.length)) (hs : L.Pairwise fun x y => ltI (keyQ S) y x = false) :
    gapsL S m = ((pickI (keyQ S) S.length m).map (gapAt S), 0) := by
  obtain ⟨h1, h2⟩ := pick_long h hp hs
  unfold gapsL
  rw [if_pos]
  rw [Bool.and_eq_true, List.all_eq_true, decide_eq_true_eq]
  exact ⟨fun x hx => decide_eq_true (h2 x hx), by omega⟩
end Go.Proofs.YtkpnffokjpgalaaGreat
