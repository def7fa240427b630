/- Heaps as lists of pairs (value, number): what sifting up and down keeps. No program here. -/
import Derived.Test.YtbceogoeoojdbaaLater
namespace Go.Proofs.Ytbceogoeoojdbaa
set_option linter.unusedVariables false

def hx (L : List (Int × Int)) (i : Nat) : Int := (L.getD i (0, 0)).1
def swapL (L : List (Int × Int)) (i k : Nat) : List (Int × Int) := (L.set i (L.getD k (0, 0))).set k (L.getD i (0, 0))
theorem hx_at {L : List (Int × Int)} {i : Nat} (h : i < L.length) : hx L i = L[i].1 := by
  unfold hx; rw [List.getD_eq_getElem?_getD, List.getElem?_eq_getElem h, Option.getD_some]
theorem hx_set (L : List (Int × Int)) (i : Nat) (e : Int × Int) (j : Nat) (hi : i < L.length) : hx (L.set i e) j = if j = i then e.1 else hx L j := by
  unfold hx
  rw [List.getD_eq_getElem?_getD, List.getD_eq_getElem?_getD, List.getElem?_set]
  by_cases h : i = j
  · subst h; simp [hi]
  · rw [if_neg h, if_neg (by omega)]
theorem swapL_length (L : List (Int × Int)) (i k : Nat) : (swapL L i k).length = L.length := by simp [swapL]
theorem hx_swap {L : List (Int × Int)} {i k : Nat} (j : Nat) (hi : i < L.length) (hk : k < L.length) : hx (swapL L i k) j = if j = k then hx L i else if j = i then hx L k else hx L j := by
  unfold swapL
  rw [hx_set _ _ _ _ (by simpa using hk), hx_set _ _ _ _ hi]; rfl
theorem swapL_perm {L : List (Int × Int)} {i k : Nat} (hi : i < L.length) (hk : k < L.length) : (swapL L i k).Perm L := by
  unfold swapL
  rw [List.getD_eq_getElem?_getD, List.getElem?_eq_getElem hk, Option.getD_some, List.getD_eq_getElem?_getD, List.getElem?_eq_getElem hi, Option.getD_some]
  exact List.set_set_perm hi hk

def HeapOrd (L : List (Int × Int)) : Prop := ∀ j, 0 < j → j < L.length → hx L ((j - 1) / 2) ≤ hx L j
structure HeapUp (L : List (Int × Int)) (i : Nat) : Prop where
  ord : ∀ j, 0 < j → j < L.length → j ≠ i → hx L ((j - 1) / 2) ≤ hx L j
  kids : ∀ j, 0 < j → j < L.length → (j - 1) / 2 = i → 0 < i → hx L ((i - 1) / 2) ≤ hx L j
theorem HeapUp.done {L : List (Int × Int)} {i : Nat} (h : HeapUp L i) (hi : i = 0 ∨ hx L ((i - 1) / 2) ≤ hx L i) : HeapOrd L := by
  intro j h0 hj
  by_cases e : j = i
  · subst e
    rcases hi with hi | hi
    · omega
    · exact hi
  · exact h.ord j h0 hj e
theorem HeapUp.swap {L : List (Int × Int)} {i : Nat} (h : HeapUp L i) (h0 : 0 < i) (hi : i < L.length) (hle : hx L i ≤ hx L ((i - 1) / 2)) : HeapUp (swapL L i ((i - 1) / 2)) ((i - 1) / 2) := by
  obtain ⟨u, hu⟩ : ∃ u, (i - 1) / 2 = u := ⟨_, rfl⟩
  rw [hu] at hle ⊢
  have hui : u < i := by omega
  have hul : u < L.length := by omega
  constructor
  · intro j j0 hj hju
    rw [swapL_length] at hj
    rw [hx_swap _ hi hul, hx_swap _ hi hul]
    by_cases e : j = i
    · subst e
      rw [hu, if_pos rfl, if_neg (by omega), if_pos rfl]
      exact hle
    · rw [if_neg hju, if_neg e]
      have ho := h.ord j j0 hj e
      by_cases e1 : (j - 1) / 2 = u
      · rw [if_pos e1]; rw [e1] at ho; omega
      · rw [if_neg e1]
        by_cases e2 : (j - 1) / 2 = i
        · rw [if_pos e2]
          have := h.kids j j0 hj e2 h0
          rwa [hu] at this
        · rw [if_neg e2]; exact ho
  · intro j j0 hj hju u0
    rw [swapL_length] at hj
    rw [hx_swap _ hi hul, hx_swap _ hi hul, if_neg (by omega), if_neg (by omega), if_neg (by omega)]
    have hou := h.ord u u0 hul (by omega)
    by_cases e : j = i
    · rw [if_pos e]; exact hou
    · rw [if_neg e]
      have := h.ord j j0 hj e
      rw [hju] at this
      omega
theorem HeapUp.start {L : List (Int × Int)} (h : HeapOrd L) (e : Int × Int) : HeapUp (L ++ [e]) L.length := by
  have ha : ∀ j, j < L.length → hx (L ++ [e]) j = hx L j := fun j hj => by
    unfold hx; rw [List.getD_eq_getElem?_getD, List.getD_eq_getElem?_getD, List.getElem?_append_left hj]
  constructor
  · intro j j0 hj hne
    simp at hj
    rw [ha _ (by omega), ha _ (by omega)]
    exact h j j0 (by omega)
  · intro j j0 hj hk
    simp at hj
    omega

structure HeapDown (L : List (Int × Int)) (i : Nat) : Prop where
  ord : ∀ j, 0 < j → j < L.length → (j - 1) / 2 ≠ i → hx L ((j - 1) / 2) ≤ hx L j
  kids : ∀ j, 0 < j → j < L.length → (j - 1) / 2 = i → 0 < i → hx L ((i - 1) / 2) ≤ hx L j
theorem HeapDown.done {L : List (Int × Int)} {i : Nat} (h : HeapDown L i) (hi : ∀ j, 0 < j → j < L.length → (j - 1) / 2 = i → hx L i ≤ hx L j) : HeapOrd L := by
  intro j h0 hj
  by_cases e : (j - 1) / 2 = i
  · rw [e]; exact hi j h0 hj e
  · exact h.ord j h0 hj e
theorem HeapDown.swap {L : List (Int × Int)} {i b : Nat} (h : HeapDown L i) (hb0 : 0 < b) (hb : b < L.length) (hbi : (b - 1) / 2 = i) (hbest : ∀ j, 0 < j → j < L.length → (j - 1) / 2 = i → hx L b ≤ hx L j) (hle : hx L b ≤ hx L i) : HeapDown (swapL L i b) b := by
  have hil : i < L.length := by omega
  constructor
  · intro j j0 hj hne
    rw [swapL_length] at hj
    rw [hx_swap _ hil hb, hx_swap _ hil hb, if_neg hne]
    by_cases e : (j - 1) / 2 = i
    · rw [if_pos e]
      by_cases e2 : j = b
      · rw [if_pos e2]; exact hle
      · rw [if_neg e2, if_neg (by omega)]; exact hbest j j0 hj e
    · rw [if_neg e, if_neg (by intro e2; subst e2; exact e hbi)]
      have ho := h.ord j j0 hj e
      by_cases e3 : j = i
      · subst e3
        rw [if_pos rfl]
        exact h.kids b hb0 hb hbi j0
      · rw [if_neg e3]; exact ho
  · intro j j0 hj hjb hb0'
    rw [swapL_length] at hj
    rw [hx_swap _ hil hb, hx_swap _ hil hb, hbi, if_neg (by omega), if_pos rfl, if_neg (by omega), if_neg (by omega)]
    have := h.ord j j0 hj (by omega)
    rwa [hjb] at this
theorem HeapDown.start {L : List (Int × Int)} (h : HeapOrd L) (hn : 0 < L.length) : HeapDown ((L.set 0 (L.getD (L.length - 1) (0, 0))).take (L.length - 1)) 0 := by
  have ha : ∀ j, j < L.length - 1 → hx ((L.set 0 (L.getD (L.length - 1) (0, 0))).take (L.length - 1)) j = if j = 0 then hx L (L.length - 1) else hx L j := fun j hj => by
    have h1 := hx_set L 0 (L.getD (L.length - 1) (0, 0)) j hn
    rw [show (L.getD (L.length - 1) (0, 0)).1 = hx L (L.length - 1) from rfl] at h1
    rw [← h1]
    unfold hx; rw [List.getD_eq_getElem?_getD, List.getD_eq_getElem?_getD (l := L.set 0 _) (i := j), List.getElem?_take, if_pos hj]
  constructor
  · intro j j0 hj hne
    simp at hj
    rw [ha _ (by omega), ha _ (by omega), if_neg hne, if_neg (by omega)]
    exact h j j0 (by omega)
  · intro j j0 hj _ h0; omega
theorem HeapOrd.least {L : List (Int × Int)} (h : HeapOrd L) : ∀ n j, j ≤ n → j < L.length → hx L 0 ≤ hx L j
  | 0, j, hn, hj => by rw [show j = 0 by omega]; exact Int.le_refl _
  | n + 1, j, hn, hj => by
    by_cases e : j = 0
    · rw [e]; exact Int.le_refl _
    · exact Int.le_trans (HeapOrd.least h n ((j - 1) / 2) (by omega) (by omega)) (h j (by omega) hj)
theorem HeapOrd.nil : HeapOrd [] := fun j _ h => by simp at h

/-- xs: the values of the heap, in order. -/
def Drains (L : List (Int × Int)) (xs : List Int) : Prop := xs.Pairwise (· ≤ ·) ∧ xs.Perm (L.map (·.1))
theorem Drains.nil {xs : List Int} (h : Drains [] xs) : xs = [] := by
  have := h.2.length_eq; simp at this; exact this
theorem map_hx {L : List (Int × Int)} {x : Int} (hx1 : x ∈ L.map (·.1)) : ∃ j, j < L.length ∧ hx L j = x := by
  obtain ⟨p, hp, rfl⟩ := List.mem_map.1 hx1
  obtain ⟨j, hj, rfl⟩ := List.mem_iff_getElem.1 hp
  exact ⟨j, hj, hx_at hj⟩
/-- Taking the root out: what the last one in its place leaves. -/
theorem take_perm {L : List (Int × Int)} (hn : 0 < L.length) : (L.getD 0 (0, 0) :: (L.set 0 (L.getD (L.length - 1) (0, 0))).take (L.length - 1)).Perm L := by
  cases L with
  | nil => simp at hn
  | cons a r =>
    show (a :: _).Perm (a :: r)
    refine List.Perm.cons a ?_
    rcases List.eq_nil_or_concat r with rfl | ⟨q, b, rfl⟩
    · simp
    · have e : ((a :: (q ++ [b])).getD ((a :: (q ++ [b])).length - 1) (0, 0)) = b := by simp [List.getD_eq_getElem?_getD]
      rw [List.concat_eq_append, e]
      have e2 : (((a :: (q ++ [b])).set 0 b).take ((a :: (q ++ [b])).length - 1)) = b :: q := by simp
      rw [e2]
      exact (List.perm_append_singleton b q).symm
theorem Drains.step {L L' : List (Int × Int)} {xs : List Int} (h : Drains L xs) (ho : HeapOrd L) (hn : 0 < L.length) (hp : (L.getD 0 (0, 0) :: L').Perm L) : ∃ r, xs = hx L 0 :: r ∧ Drains L' r := by
  obtain ⟨hs, hperm⟩ := h
  have hp2 : xs.Perm (hx L 0 :: L'.map (·.1)) := hperm.trans ((hp.map (·.1)).symm)
  cases xs with
  | nil => have := hp2.length_eq; simp at this
  | cons y r =>
    have hy : y = hx L 0 := by
      have h1 : hx L 0 ≤ y := by
        obtain ⟨j, hj, e⟩ := map_hx (hperm.subset (List.mem_cons_self (a := y) (l := r)))
        rw [← e]; exact ho.least _ j (Nat.le_refl _) hj
      have h2 : y ≤ hx L 0 := by
        have hm : hx L 0 ∈ y :: r := hp2.symm.subset List.mem_cons_self
        rcases List.mem_cons.1 hm with e | hm
        · omega
        · exact (List.pairwise_cons.1 hs).1 _ hm
      omega
    subst hy
    exact ⟨r, rfl, (List.pairwise_cons.1 hs).2, (List.Perm.cons_inv hp2)⟩
theorem Drains.perm {L L' : List (Int × Int)} {xs : List Int} (h : Drains L xs) (hp : L.Perm L') : Drains L' xs := ⟨h.1, h.2.trans (hp.map _)⟩
theorem Drains.unique {L : List (Int × Int)} {xs ys : List Int} (h : Drains L xs) (k : Drains L ys) : xs = ys :=
  List.Perm.eq_of_pairwise (fun a b _ _ h1 h2 => Int.le_antisymm h1 h2) h.1 k.1 (h.2.trans k.2.symm)
end Go.Proofs.Ytbceogoeoojdbaa
