/- Layer 18 (plain): a sum of convex rings has no more vertices than both; hulls by their support; widening twice. -/
import Derived.Test.YticmfmcflikneaaOffP4
namespace Go.Proofs.Yticmfmcflikneaa
open Go.RowKit Go.Sort
set_option linter.unusedVariables false

/-- Edge j of the ring lies where the form is least. -/
def Face (K L : Int) (r : List Pt) (j : Nat) : Prop := lin K L (rv r (j + 1)) = lin K L (at0 r j) ∧ ∀ p ∈ r, lin K L (at0 r j) ≤ lin K L p
theorem face_of {r : List Pt} (h : ConvexI r) {K L : Int} (hKL : K ≠ 0 ∨ L ≠ 0) {u v : Pt} (hu : u ∈ r) (hv : v ∈ r) (huv : u ≠ v) (eu : ∀ p ∈ r, lin K L u ≤ lin K L p) (ev : ∀ p ∈ r, lin K L v ≤ lin K L p) : ∃ j, j < r.length ∧ Face K L r j := by
  obtain ⟨i, hi, rfl⟩ := mem_at hu
  obtain ⟨k, hk, rfl⟩ := mem_at hv
  have a := eu _ hv
  have b := ev _ hu
  obtain ⟨j, hj, e1, e2⟩ := edge_min h hKL hi hk (by rintro rfl; exact huv rfl) (by omega) eu
  exact ⟨j, hj, by omega, fun p hp => by rw [e1]; exact eu p hp⟩
/-- Two forms that are least at one edge of a ring are both zero or both not, and of one sign. -/
theorem face_cross {r : List Pt} (h : ConvexI r) (h3 : 3 ≤ r.length) {K L : Int} (hKL : K ≠ 0 ∨ L ≠ 0) {j : Nat} (hj : j < r.length) (hf : Face K L r j) :
    ∃ μ : Int, 0 < μ ∧ ∀ x y : Int, (K * x + L * y) * (((rv r (j + 1)).1 - (at0 r j).1) * ((rv r (j + 1)).1 - (at0 r j).1) + ((rv r (j + 1)).2 - (at0 r j).2) * ((rv r (j + 1)).2 - (at0 r j).2)) = μ * (((rv r (j + 1)).1 - (at0 r j).1) * y - ((rv r (j + 1)).2 - (at0 r j).2) * x) := by
  obtain ⟨f1, f2⟩ := hf
  have hne := (h.self h3).next_ne hj
  obtain ⟨m, hm, hm1, hm2⟩ : ∃ m, m < r.length ∧ m ≠ j ∧ m ≠ (j + 1) % r.length := by
    by_cases q : j + 1 < r.length
    · rw [Nat.mod_eq_of_lt q]
      by_cases q0 : j = 0
      · exact ⟨2, by omega, by omega, by omega⟩
      · exact ⟨0, by omega, by omega, by omega⟩
    · rw [show j + 1 = r.length by omega, Nat.mod_self]
      exact ⟨1, by omega, by omega, by omega⟩
  have hd := h j hj m hm hm1 hm2
  have hp := f2 _ (at0_mem hm)
  generalize at0 r m = p at *
  generalize at0 r j = a at *
  generalize rv r (j + 1) = b at *
  obtain ⟨dx, hdx⟩ : ∃ dx, dx = b.1 - a.1 := ⟨_, rfl⟩
  obtain ⟨dy, hdy⟩ : ∃ dy, dy = b.2 - a.2 := ⟨_, rfl⟩
  have z : K * dx + L * dy = 0 := by
    have : K * dx + L * dy = lin K L b - lin K L a := by rw [hdx, hdy]; unfold lin; grind
    omega
  have hd' : 0 < dx * (p.2 - a.2) - dy * (p.1 - a.1) := by unfold det at hd; rw [hdx, hdy]; exact hd
  have id : ∀ x y : Int, (K * x + L * y) * (dx * dx + dy * dy) = (L * dx - K * dy) * (dx * y - dy * x) := fun x y => by
    have e : (K * x + L * y) * (dx * dx + dy * dy) = (L * dx - K * dy) * (dx * y - dy * x) + (K * dx + L * dy) * (dx * x + dy * y) := by grind
    rw [e, z, Int.zero_mul, Int.add_zero]
  rw [← hdx, ← hdy]
  refine ⟨L * dx - K * dy, ?_, id⟩
  have hdd : 0 < dx * dx + dy * dy := by
    have := sq_pos2 (K := dx) (L := dy) (by
      by_cases q : dx = 0
      · right
        intro q2
        exact hne (Prod.ext (by omega) (by omega))
      · exact .inl q)
    omega
  have h1 := id (p.1 - a.1) (p.2 - a.2)
  have h2 : 0 ≤ K * (p.1 - a.1) + L * (p.2 - a.2) := by
    have : K * (p.1 - a.1) + L * (p.2 - a.2) = lin K L p - lin K L a := by unfold lin; grind
    omega
  have h4 := Int.mul_nonneg h2 (Int.le_of_lt hdd)
  rw [h1] at h4
  rcases Int.lt_trichotomy 0 (L * dx - K * dy) with q | q | q
  · exact q
  · exfalso
    have k1 := id K L
    rw [← q, Int.zero_mul] at k1
    have k2 := sq_pos2 hKL
    have k3 := Int.mul_le_mul k2 (show 1 ≤ dx * dx + dy * dy by omega) (by omega) (by omega)
    omega
  · exfalso
    have := Int.mul_neg_of_neg_of_pos q hd'
    omega
theorem pos_cancel {a b c : Int} (hb : 0 < b) (hc : 0 < c) {x y : Int} (h : a * b = c * x) : (0 ≤ a ↔ 0 ≤ x) ∧ (a = 0 ↔ x = 0) := by
  have s1 : 0 ≤ a → 0 ≤ x := fun ha => by
    have := Int.mul_nonneg ha (Int.le_of_lt hb)
    rw [h] at this
    exact nonneg_of_mul hc this
  have s2 : 0 ≤ x → 0 ≤ a := fun hx => by
    have := Int.mul_nonneg (Int.le_of_lt hc) hx
    rw [← h, Int.mul_comm] at this
    exact nonneg_of_mul hb this
  refine ⟨⟨s1, s2⟩, ⟨fun ha => ?_, fun hx => ?_⟩⟩
  · rw [ha, Int.zero_mul] at h
    exact zero_of_mul hc h.symm
  · rw [hx, Int.mul_zero, Int.mul_comm] at h
    exact zero_of_mul hb h
/-- Two forms with one least edge: where the difference is not negative for the one, it is not for the other. -/
theorem face_same {r : List Pt} (h : ConvexI r) (h3 : 3 ≤ r.length) {K L K' L' : Int} (hKL : K ≠ 0 ∨ L ≠ 0) (hKL' : K' ≠ 0 ∨ L' ≠ 0) {j : Nat} (hj : j < r.length) (hf : Face K L r j) (hf' : Face K' L' r j) (x y : Int) :
    (0 ≤ K * x + L * y ↔ 0 ≤ K' * x + L' * y) ∧ (K * x + L * y = 0 ↔ K' * x + L' * y = 0) := by
  obtain ⟨μ, h1, e⟩ := face_cross h h3 hKL hj hf
  obtain ⟨ν, h2, e'⟩ := face_cross h h3 hKL' hj hf'
  have hne := (h.self h3).next_ne hj
  have hdd : 0 < (((rv r (j + 1)).1 - (at0 r j).1) * ((rv r (j + 1)).1 - (at0 r j).1) + ((rv r (j + 1)).2 - (at0 r j).2) * ((rv r (j + 1)).2 - (at0 r j).2)) := by
    have := sq_pos2 (K := (rv r (j + 1)).1 - (at0 r j).1) (L := (rv r (j + 1)).2 - (at0 r j).2) (by
      by_cases q : (rv r (j + 1)).1 - (at0 r j).1 = 0
      · right
        intro q2
        exact hne (Prod.ext (by omega) (by omega))
      · exact .inl q)
    omega
  have a := pos_cancel (y := 0) hdd h1 (e x y)
  have b := pos_cancel (y := 0) hdd h2 (e' x y)
  exact ⟨a.1.trans b.1.symm, a.2.trans b.2.symm⟩
theorem pigeon {f : Nat → Nat} {n m : Nat} (hm : ∀ i, i < n → f i < m) (hf : ∀ i k, i < n → k < n → f i = f k → i = k) : n ≤ m := by
  have h := nodup_le (l := (List.range n).map f) (m := List.range m) (by
    unfold List.Nodup
    rw [List.pairwise_map]
    refine List.Pairwise.imp_of_mem (R := fun a b => a < b) ?_ List.pairwise_lt_range
    intro a b ha hb hab e
    have := hf a b (by simpa using ha) (by simpa using hb) e
    omega) (by
    intro x hx
    obtain ⟨i, hi, rfl⟩ := List.mem_map.1 hx
    simpa using hm i (by simpa using hi))
  simpa using h
/-- The vertices of a sum of convex rings are not more than those of both. -/
theorem sum_len {r o P s : List Pt} (hr : ConvexI r) (r3 : 3 ≤ r.length) (ho : ConvexI o) (o3 : 3 ≤ o.length) (hs : IsHull P s) (hP : ∀ v ∈ P, ∃ p ∈ r, ∃ q ∈ o, v = (p.1 + q.1, p.2 + q.2)) (hQ : ∀ p ∈ r, ∀ q ∈ o, (p.1 + q.1, p.2 + q.2) ∈ P) : s.length ≤ r.length + o.length := by
  have key : ∀ i, i < s.length → ∃ K L c : Int, (K ≠ 0 ∨ L ≠ 0) ∧ (∀ v, det (at0 s i) (rv s (i + 1)) v = lin K L v + c) ∧ ((∃ j, j < r.length ∧ Face K L r j) ∨ ∃ j, j < o.length ∧ Face K L o j) := by
    intro i hi
    obtain ⟨c, hc⟩ := det_form (at0 s i) (rv s (i + 1))
    have hne := hs.next_ne hi
    have hKL := form_ne hne
    have ha := hs.sub _ (at0_mem hi)
    have hb := hs.sub (rv s (i + 1)) (at0_mem (Nat.mod_lt _ (by omega)))
    have hl := hs.left i hi
    have da := det_self (at0 s i) (rv s (i + 1))
    have db := det_end (at0 s i) (rv s (i + 1))
    refine ⟨_, _, c, hKL, hc, ?_⟩
    obtain ⟨p1, hp1, q1, hq1, e1⟩ := hP _ ha
    obtain ⟨p2, hp2, q2, hq2, e2⟩ := hP _ hb
    have hmin : ∀ p ∈ r, ∀ q ∈ o, 0 ≤ lin (-((rv s (i + 1)).2 - (at0 s i).2)) ((rv s (i + 1)).1 - (at0 s i).1) p + lin (-((rv s (i + 1)).2 - (at0 s i).2)) ((rv s (i + 1)).1 - (at0 s i).1) q + c := fun p hp q hq => by
      have := hl _ (hQ p hp q hq)
      rw [hc, lin_sum] at this
      exact this
    rw [hc] at da db
    generalize -((rv s (i + 1)).2 - (at0 s i).2) = K at *
    generalize (rv s (i + 1)).1 - (at0 s i).1 = L at *
    rw [e1, lin_sum] at da
    rw [e2, lin_sum] at db
    have m1 : ∀ p ∈ r, lin K L p1 ≤ lin K L p := fun p hp => by have := hmin p hp q1 hq1; omega
    have m2 : ∀ p ∈ r, lin K L p2 ≤ lin K L p := fun p hp => by have := hmin p hp q2 hq2; omega
    have m3 : ∀ q ∈ o, lin K L q1 ≤ lin K L q := fun q hq => by have := hmin p1 hp1 q hq; omega
    have m4 : ∀ q ∈ o, lin K L q2 ≤ lin K L q := fun q hq => by have := hmin p2 hp2 q hq; omega
    by_cases hp : p1 = p2
    · right
      refine face_of ho hKL hq1 hq2 (fun hq => hne ?_) m3 m4
      rw [e1, e2, hp, hq]
    · exact .inl (face_of hr hKL hp1 hp2 hp m1 m2)
  have code : ∀ i, ∃ f : Nat, i < s.length → f < r.length + o.length ∧ ∃ K L c : Int, (K ≠ 0 ∨ L ≠ 0) ∧ (∀ v, det (at0 s i) (rv s (i + 1)) v = lin K L v + c) ∧ ((f < r.length ∧ Face K L r f) ∨ (r.length ≤ f ∧ Face K L o (f - r.length))) := by
    intro i
    by_cases hi : i < s.length
    · obtain ⟨K, L, c, h1, h2, ⟨j, hj, hf⟩ | ⟨j, hj, hf⟩⟩ := key i hi
      · exact ⟨j, fun _ => ⟨by omega, K, L, c, h1, h2, .inl ⟨hj, hf⟩⟩⟩
      · exact ⟨r.length + j, fun _ => ⟨by omega, K, L, c, h1, h2, .inr ⟨by omega, by rw [Nat.add_sub_cancel_left]; exact hf⟩⟩⟩
    · exact ⟨0, fun h => absurd h hi⟩
  obtain ⟨f, hf⟩ : ∃ f : Nat → Nat, ∀ i, i < s.length → f i < r.length + o.length ∧ ∃ K L c : Int, (K ≠ 0 ∨ L ≠ 0) ∧ (∀ v, det (at0 s i) (rv s (i + 1)) v = lin K L v + c) ∧ ((f i < r.length ∧ Face K L r (f i)) ∨ (r.length ≤ f i ∧ Face K L o (f i - r.length))) :=
    ⟨fun i => Classical.choose (code i), fun i => Classical.choose_spec (code i)⟩
  have near_ : ∀ i k, i < s.length → k < s.length → f i = f k → k = i ∨ k = (i + 1) % s.length := by
    intro i k hi hk e
    obtain ⟨hlt, K, L, c, hKL, hd, hF⟩ := hf i hi
    obtain ⟨-, K', L', c', hKL', hd', hF'⟩ := hf k hk
    have hsame : ∀ x y : Int, (0 ≤ K * x + L * y ↔ 0 ≤ K' * x + L' * y) ∧ (K * x + L * y = 0 ↔ K' * x + L' * y = 0) := by
      rcases hF with ⟨a, b⟩ | ⟨a, b⟩ <;> rcases hF' with ⟨a', b'⟩ | ⟨a', b'⟩
      · exact face_same hr r3 hKL hKL' a b (e ▸ b')
      · omega
      · omega
      · exact face_same ho o3 hKL hKL' (by omega) b (e ▸ b')
    have ai := hs.sub _ (at0_mem hi)
    have ak := hs.sub _ (at0_mem hk)
    have d1 := hs.left i hi _ ak
    have d2 := hs.left k hk _ ai
    have z1 := det_self (at0 s i) (rv s (i + 1))
    have z2 := det_self (at0 s k) (rv s (k + 1))
    rw [hd] at d1 z1
    rw [hd'] at d2 z2
    have hx := hsame ((at0 s k).1 - (at0 s i).1) ((at0 s k).2 - (at0 s i).2)
    have e1 : K * ((at0 s k).1 - (at0 s i).1) + L * ((at0 s k).2 - (at0 s i).2) = lin K L (at0 s k) - lin K L (at0 s i) := by unfold lin; grind
    have e2 : K' * ((at0 s k).1 - (at0 s i).1) + L' * ((at0 s k).2 - (at0 s i).2) = lin K' L' (at0 s k) - lin K' L' (at0 s i) := by unfold lin; grind
    rw [e1, e2] at hx
    have h0 : lin K' L' (at0 s k) - lin K' L' (at0 s i) = 0 := by
      have := hx.1.1 (by omega)
      omega
    have h1 := hx.2.2 h0
    by_cases hki : k = i
    · exact .inl hki
    by_cases hki2 : k = (i + 1) % s.length
    · exact .inr hki2
    exfalso
    have := hs.convex i k hi hk hki hki2
    rw [hd] at this
    omega
  refine pigeon (f := f) (fun i hi => (hf i hi).1) (fun i k hi hk e => ?_)
  have s3 := hs.three
  rcases near_ i k hi hk e with h | h
  · exact h.symm
  · rcases near_ k i hk hi e.symm with h' | h'
    · exact h'
    · exfalso
      by_cases q : i + 1 < s.length
      · rw [Nat.mod_eq_of_lt q] at h
        by_cases q2 : k + 1 < s.length
        · rw [Nat.mod_eq_of_lt q2] at h'; omega
        · rw [show k + 1 = s.length by omega, Nat.mod_self] at h'; omega
      · rw [show i + 1 = s.length by omega, Nat.mod_self] at h
        rw [h, Nat.mod_eq_of_lt (by omega)] at h'
        omega
/-- Hulls of sets with the same support are the same. -/
theorem hull_support {P Q r s : List Pt} (hP : P.any farB = false) (hQ : Q.any farB = false) (hr : HullY P r) (hs : HullY Q s) (h : ∀ K L c : Int, (∀ v ∈ P, lin K L v ≤ c) ↔ (∀ v ∈ Q, lin K L v ≤ c)) : r = s := by
  have nP := far_any.1 hP
  have nQ := far_any.1 hQ
  have step : ∀ {P Q r : List Pt}, (∀ p ∈ P, near 8000 p) → (∀ p ∈ Q, near 8000 p) → HullY P r → (∀ K L c : Int, (∀ v ∈ P, lin K L v ≤ c) → (∀ v ∈ Q, lin K L v ≤ c)) → HullY (P ++ Q) r := by
    intro P Q r nP nQ hr h
    refine ⟨⟨hr.hull.three, hr.hull.convex, fun i hi q hq => ?_, fun q hq => List.mem_append_left _ (hr.hull.sub q hq)⟩, fun q hq => ?_⟩
    · rcases List.mem_append.1 hq with hq | hq
      · exact hr.hull.left i hi q hq
      · obtain ⟨k, l, c, e⟩ := lin_of_det (at0 r i) (rv r (i + 1))
        rw [e]
        have := h (-k) (-l) c (fun v hv => by
          have := hr.hull.left i hi v hv
          rw [e] at this
          rw [lin_neg]
          omega) q hq
        rw [lin_neg] at this
        omega
    · rcases List.mem_append.1 hq with hq | hq
      · exact hr.first q hq
      · have h0 := hr.hull.sub _ (at0_mem (i := 0) (by have := hr.hull.three; omega))
        have hle := h (-1) (-(2 * 8000 + 1)) (-(lin 1 (2 * 8000 + 1) (at0 r 0))) (fun v hv => by
          rw [lin_neg]
          rcases hr.first v hv with e | e
          · rw [e]; exact Int.le_refl _
          · have n1 := nP _ h0
            have n2 := nP _ hv
            unfold near at n1 n2
            unfold lexy at e
            unfold lin
            omega) q hq
        rw [lin_neg] at hle
        have n1 := nP _ h0
        have n2 := nQ _ hq
        unfold near at n1 n2
        exact lin_lexy (M := 8000) n1.1 n2.1 (by omega)
  have a := step nP nQ hr (fun K L c => (h K L c).1)
  have b := step nQ nP hs (fun K L c => (h K L c).2)
  refine a.unique (b.more (fun q hq => ?_) (fun v hv => List.mem_append_right _ (hs.hull.sub v hv)))
  rcases List.mem_append.1 hq with hq | hq
  · exact List.mem_append_right _ hq
  · exact List.mem_append_left _ hq
theorem octH24 (i : Int) : octH (24 * i) = 10 * i := by unfold octH; omega
theorem octM24 {i : Int} (hi : 0 ≤ i) (K L : Int) : octM (24 * i) K L = i * max (24 * ab K + 10 * ab L) (10 * ab K + 24 * ab L) := by
  unfold octM
  rw [octH24]
  have e1 : ab K * (24 * i) + ab L * (10 * i) = i * (24 * ab K + 10 * ab L) := by grind
  have e2 : ab K * (10 * i) + ab L * (24 * i) = i * (10 * ab K + 24 * ab L) := by grind
  rw [e1, e2]
  rcases Int.le_total (24 * ab K + 10 * ab L) (10 * ab K + 24 * ab L) with h | h
  · rw [Int.max_eq_right h, Int.max_eq_right (Int.mul_le_mul_of_nonneg_left h hi)]
  · rw [Int.max_eq_left h, Int.max_eq_left (Int.mul_le_mul_of_nonneg_left h hi)]
theorem octM_add {i j : Int} (hi : 0 ≤ i) (hj : 0 ≤ j) (K L : Int) : octM (24 * (i + j)) K L = octM (24 * i) K L + octM (24 * j) K L := by
  rw [octM24 hi, octM24 hj, octM24 (by omega)]
  grind
theorem octF_cv {k : Int} (h1 : 1 ≤ k) (h2 : k ≤ 200) : ConvexI (octF k) ∧ 3 ≤ (octF k).length := by
  obtain ⟨a, b, c, d⟩ := convexB_iff.1 (octF_conv h1 h2).1
  exact ⟨d, a⟩
/-- A ring of at most 12 vertices, widened, has at most 20. -/
theorem grow_len {k : Int} (h0 : 0 ≤ k) (h2 : k ≤ 200) {r s : List Pt} (hc : convexB r = true) (hl : r.length ≤ 12) (hr : ∀ p ∈ r, near 8000 p) (hy : HullY (sumsL r (octR k)) s) : s.length ≤ 20 := by
  by_cases hk : k = 0
  · subst hk
    have := hy.hull.len_le
    rw [sumsL_len, show (octR 0).length = 1 from rfl, Nat.mul_one] at this
    omega
  · have hoR : octR k = octF k := octR_pos hk
    rw [hoR] at hy
    obtain ⟨oc, o3⟩ := octF_cv (k := k) (by omega) h2
    obtain ⟨r3, -, -, rc⟩ := convexB_iff.1 hc
    have hon : ∀ o ∈ octF k, near 8000 o := fun o ho => by
      have := octR_in h0 h2 (by rw [hoR]; exact ho)
      unfold near at *
      omega
    have := sum_len rc r3 oc o3 hy.hull (fun v hv => by
      obtain ⟨p, hp, hv⟩ := List.mem_flatMap.1 hv
      obtain ⟨o, ho, rfl⟩ := List.mem_map.1 hv
      exact ⟨p, hp, o, ho, sum_exact (hr p hp) (hon o ho)⟩) (fun p hp o ho => by
      rw [← sum_exact (hr p hp) (hon o ho)]
      exact List.mem_flatMap.2 ⟨p, hp, List.mem_map.2 ⟨o, ho, rfl⟩⟩)
    have := (octF_conv (k := k) (by omega) h2).2
    omega
theorem grow_in {k : Int} (h0 : 0 ≤ k) (h2 : k ≤ 200) {r s : List Pt} (hf : Fits k r) (hg : growF k r = (s, 0)) {p : Pt} (hp : p ∈ r) : whereV s p ≠ 0 ∧ ∀ o ∈ octR k, whereV s (sumOf p o) ≠ 0 := by
  obtain ⟨s', e, hy, hcs, -⟩ := grow_fits h0 h2 hf
  rw [hg] at e
  injection e with e1 _
  subst e1
  obtain ⟨-, -, hfr, -⟩ := convexB_iff.1 hf.1
  have hr := far_any.1 hfr
  have hsf := (sums_near h0 h2 hr).2 hf.2.2
  constructor
  · refine (where_out hcs p).2 ⟨near_far.2 (hr p hp), fun i hi => ?_⟩
    obtain ⟨k', l', c, e⟩ := lin_of_det (at0 s i) (rv s (i + 1))
    rw [e]
    have h1 := (sums_max h0 h2 hr (-k') (-l') c).1 (fun v hv => by
      have := hy.hull.left i hi v hv
      rw [e] at this
      rw [lin_neg]
      omega) p hp
    rw [lin_neg] at h1
    have := octM_nonneg h0 (-k') (-l')
    omega
  · intro o ho
    have hm : sumOf p o ∈ sumsL r (octR k) := List.mem_flatMap.2 ⟨p, hp, List.mem_map.2 ⟨o, ho, rfl⟩⟩
    refine (where_out hcs _).2 ⟨far_false hsf hm, fun i hi => hy.hull.left i hi _ hm⟩
theorem contains_law {r : List Pt} (hc : convexB r = true) (hl : r.length ≤ 12) (hn : ∀ p ∈ r, near 4000 p) {i j : Int} (hi : 0 ≤ i ∧ i ≤ 4) (hj : 0 ≤ j ∧ j ≤ 4) :
    ∃ a s, growF (24 * i) r = (a, 0) ∧ growF (24 * j) a = (s, 0) ∧ growF (24 * i + 24 * j) r = (s, 0) ∧ a.length ≤ 20 ∧ ∀ p ∈ r, whereV a p ≠ 0 ∧ ∀ o ∈ octR (24 * i), whereV a (sumOf p o) ≠ 0 := by
  have hf : ∀ k : Int, k ≤ 200 → Fits k r := fun k hk => ⟨hc, by omega, fun p hp => by have := hn p hp; unfold near at *; omega⟩
  have hr8 : ∀ p ∈ r, near 8000 p := fun p hp => by have := hn p hp; unfold near at *; omega
  obtain ⟨a, ea, ya, ca, -⟩ := grow_fits (k := 24 * i) (by omega) (by omega) (hf _ (by omega))
  have la := grow_len (k := 24 * i) (by omega) (by omega) hc hl hr8 ya
  have sm := fun K L c => sums_max (k := 24 * i) (by omega) (by omega) hr8 K L c
  have na : ∀ p ∈ a, near 4200 p := fun p hp => by
    have hps := ya.hull.sub p hp
    have b1 : ∀ K L : Int, octM (24 * i) K L ≤ 200 * (ab K + ab L) := fun K L => by
      have n1 := ab_nonneg K
      have n2 := ab_nonneg L
      have hh := octH24 i
      have m1 := Int.mul_le_mul_of_nonneg_left (show 24 * i ≤ 200 by omega) n1
      have m2 := Int.mul_le_mul_of_nonneg_left (show 24 * i ≤ 200 by omega) n2
      have m3 := Int.mul_le_mul_of_nonneg_left (show octH (24 * i) ≤ 200 by omega) n1
      have m4 := Int.mul_le_mul_of_nonneg_left (show octH (24 * i) ≤ 200 by omega) n2
      unfold octM
      omega
    have t1 := (sm 1 0 4200).2 (fun q hq => by have := hn q hq; have := b1 1 0; unfold near at *; unfold lin; simp [ab] at *; omega) p hps
    have t2 := (sm (-1) 0 4200).2 (fun q hq => by have := hn q hq; have := b1 (-1) 0; unfold near at *; unfold lin; simp [ab] at *; omega) p hps
    have t3 := (sm 0 1 4200).2 (fun q hq => by have := hn q hq; have := b1 0 1; unfold near at *; unfold lin; simp [ab] at *; omega) p hps
    have t4 := (sm 0 (-1) 4200).2 (fun q hq => by have := hn q hq; have := b1 0 (-1); unfold near at *; unfold lin; simp [ab] at *; omega) p hps
    unfold lin at t1 t2 t3 t4
    unfold near
    omega
  have fa : Fits (24 * j) a := ⟨ca, la, fun p hp => by have := na p hp; unfold near at *; omega⟩
  have na8 : ∀ p ∈ a, near 8000 p := fun p hp => by have := na p hp; unfold near at *; omega
  obtain ⟨s, es, ys, cs, -⟩ := grow_fits (k := 24 * j) (by omega) (by omega) fa
  obtain ⟨t, et, yt, ct, -⟩ := grow_fits (k := 24 * (i + j)) (by omega) (by omega) (hf _ (by omega))
  have sf := (sums_near (k := 24 * j) (by omega) (by omega) na8).2 fa.2.2
  have tf := (sums_near (k := 24 * (i + j)) (by omega) (by omega) hr8).2 (hf (24 * (i + j)) (by omega)).2.2
  have hst : s = t := hull_support sf tf ys yt (fun K L c => by
    rw [sums_max (by omega) (by omega) na8, sums_max (by omega) (by omega) hr8, octM_add hi.1 hj.1]
    constructor
    · intro h p hp
      have := (sm K L (c - octM (24 * j) K L)).1 (fun v hv => by
        obtain ⟨x, hx, hm⟩ := ya.hull.least (-K) (-L)
        have h1 := hm v hv
        have h2 := h _ (at0_mem hx)
        rw [lin_neg, lin_neg] at h1
        omega) p hp
      omega
    · intro h p hp
      have := (sm K L (c - octM (24 * j) K L)).2 (fun q hq => by have := h q hq; omega) p (ya.hull.sub p hp)
      omega)
  subst hst
  exact ⟨a, s, ea, es, by rw [← Int.mul_add]; exact et, la, fun p hp => grow_in (by omega) (by omega) (hf _ (by omega)) ea hp⟩
end Go.Proofs.Yticmfmcflikneaa
