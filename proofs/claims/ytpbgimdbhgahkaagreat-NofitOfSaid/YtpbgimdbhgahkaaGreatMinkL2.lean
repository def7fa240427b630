/- Layer 15: points of the sum; the walk of MinkowskiPoints. -/
import Derived.Test.YtpbgimdbhgahkaaGreatMinkL1
import Derived.Test.YtpbgimdbhgahkaaGreatMink7
import Derived.Test.YtpbgimdbhgahkaaGreatMinkP4
namespace Go.Proofs.YtpbgimdbhgahkaaGreat
open Go.RowKit Go.Sort
set_option linter.unusedVariables false
set_option linter.unusedSimpArgs false
attribute [local go_sem ↓] Go.wp_at_zero Go.wp_at_succ

theorem where_in {r : List Pt} {p : Pt} (h : whereM r p ≠ 0) : validB r = true ∧ near 8000 p ∧ ∀ i, i < r.length → 0 ≤ det (at0 r i) (rv r (i + 1)) p := by
  unfold whereM at h
  cases hv : validB r
  · rw [hv] at h; simp at h
  · cases hi : inV p
    · rw [hi] at h; simp at h
    · rw [hv, hi] at h
      have hC := validB_iff.1 hv
      exact ⟨rfl, inV_near.1 hi, (place_out (by omega) hC.2.2.1 (inV_near.1 hi)).1 h⟩
theorem where_two {r : List Pt} {p : Pt} (hv : validB r = true) (hp : near 8000 p) : whereM r p = 2 ↔ ∀ i, i < r.length → 0 < det (at0 r i) (rv r (i + 1)) p := by
  unfold whereM
  have hC := validB_iff.1 hv
  rw [hv, inV_near.2 hp]
  exact place_in (by omega) hC.2.2.1 hp
theorem where_not {r : List Pt} {p : Pt} (hv : validB r = true) (hp : near 8000 p) : whereM r p ≠ 0 ↔ ∀ i, i < r.length → 0 ≤ det (at0 r i) (rv r (i + 1)) p := by
  unfold whereM
  have hC := validB_iff.1 hv
  rw [hv, inV_near.2 hp]
  exact place_out (by omega) hC.2.2.1 hp
theorem lin_add (K L : Int) (p q : Pt) : lin K L (addP p q) = lin K L p + lin K L q := by unfold lin addP; grind
/-- A point of a convex ring is not lower than its lowest vertex. -/
theorem low_in {r : List Pt} (hC : Conv15 r) {p : Pt} (hp : ∀ i, i < r.length → 0 ≤ det (at0 r i) (rv r (i + 1)) p) (K L : Int) : ∃ v ∈ r, lin K L v ≤ lin K L p ∧ ((K ≠ 0 ∨ L ≠ 0) → (∀ i, i < r.length → 0 < det (at0 r i) (rv r (i + 1)) p) → lin K L v < lin K L p) := by
  have H0 := hC.2.2.2.self hC.1
  have H : IsHull (p :: r) r := ⟨H0.three, H0.convex, fun i hi q hq => by
    rcases List.mem_cons.1 hq with rfl | hq
    · exact hp i hi
    · exact H0.left i hi q hq, fun q hq => List.mem_cons_of_mem _ hq⟩
  obtain ⟨i, hi, hm⟩ := H.least K L
  refine ⟨at0 r i, at0_mem hi, hm p (List.mem_cons_self ..), fun hKL hs => ?_⟩
  obtain ⟨v, hv, hl⟩ := inside_less H0 hKL hs
  have := hm v (List.mem_cons_of_mem _ hv)
  omega
theorem edge_form {u : List Pt} (hu : ConvexI u) (h3 : 3 ≤ u.length) {i : Nat} (hi : i < u.length) : ∃ K L c : Int, (K ≠ 0 ∨ L ≠ 0) ∧ ∀ q, det (at0 u i) (rv u (i + 1)) q = lin K L q + c := by
  have hne := (hu.self h3).next_ne hi
  refine ⟨-((rv u (i + 1)).2 - (at0 u i).2), (rv u (i + 1)).1 - (at0 u i).1, (rv u (i + 1)).2 * (at0 u i).1 - (at0 u i).2 * (at0 u i).1 - ((rv u (i + 1)).1 * (at0 u i).2 - (at0 u i).1 * (at0 u i).2), ?_, fun q => ?_⟩
  · by_cases h : -((rv u (i + 1)).2 - (at0 u i).2) = 0
    · right
      intro h2
      exact hne (Prod.ext (by omega) (by omega))
    · exact .inl h
  · unfold det lin; grind
theorem where_sum {r s u : List Pt} (H : HullY (sums2 r s) u) (hu : Conv15 u) {p q : Pt} (hp : whereM r p ≠ 0) (hq : whereM s q ≠ 0) : near 8000 (addP p q) ∧ whereM u (addP p q) ≠ 0 ∧ (whereM r p = 2 ∨ whereM s q = 2 → whereM u (addP p q) = 2) := by
  obtain ⟨v1, n1, d1⟩ := where_in hp
  obtain ⟨v2, n2, d2⟩ := where_in hq
  have C1 := validB_iff.1 v1
  have C2 := validB_iff.1 v2
  have key := fun (K L : Int) => (by
    obtain ⟨a, ha, la, sa⟩ := low_in C1 d1 K L
    obtain ⟨b, hb, lb, sb⟩ := low_in C2 d2 K L
    exact ⟨addP a b, mem_sums2.2 ⟨a, ha, b, hb, rfl⟩, by rw [lin_add, lin_add]; omega, fun hKL hs => by
      rw [lin_add, lin_add]
      rcases hs with hs | hs
      · have := sa hKL ((where_two v1 n1).1 hs); omega
      · have := sb hKL ((where_two v2 n2).1 hs); omega⟩ : ∃ x ∈ sums2 r s, lin K L x ≤ lin K L (addP p q) ∧ ((K ≠ 0 ∨ L ≠ 0) → (whereM r p = 2 ∨ whereM s q = 2) → lin K L x < lin K L (addP p q)))
  have box := fun (K L : Int) (hb : ∀ x ∈ u, -8000 ≤ lin K L x) => (by
    obtain ⟨x, hx, hl, _⟩ := key K L
    obtain ⟨i, hi, hm⟩ := H.hull.least K L
    have := hm x hx
    have := hb _ (at0_mem hi)
    omega : -8000 ≤ lin K L (addP p q))
  have e : ∀ x ∈ u, near 8000 x := hu.2.2.1
  have b1 := box 1 0 (fun x hx => by have := e x hx; unfold near at this; unfold lin; omega)
  have b2 := box (-1) 0 (fun x hx => by have := e x hx; unfold near at this; unfold lin; omega)
  have b3 := box 0 1 (fun x hx => by have := e x hx; unfold near at this; unfold lin; omega)
  have b4 := box 0 (-1) (fun x hx => by have := e x hx; unfold near at this; unfold lin; omega)
  have nn : near 8000 (addP p q) := by unfold lin at *; unfold near; omega
  have vu := validB_iff.2 hu
  refine ⟨nn, (where_not vu nn).2 fun i hi => ?_, fun h2 => (where_two vu nn).2 fun i hi => ?_⟩
  · obtain ⟨K, L, c, hKL, hf⟩ := edge_form hu.2.2.2 hu.1 hi
    obtain ⟨x, hx, hl, _⟩ := key K L
    have := H.hull.left i hi x hx
    rw [hf] at this ⊢
    omega
  · obtain ⟨K, L, c, hKL, hf⟩ := edge_form hu.2.2.2 hu.1 hi
    obtain ⟨x, hx, _, hs⟩ := key K L
    have := H.hull.left i hi x hx
    have := hs hKL h2
    rw [hf] at *
    omega
end Go.Proofs.YtpbgimdbhgahkaaGreat
