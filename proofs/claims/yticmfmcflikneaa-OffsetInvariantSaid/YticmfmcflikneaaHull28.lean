/- Layer 10 (plain): width, farthest vertices and diameter, without overflow; moved points. -/
import Derived.Test.YticmfmcflikneaaHull26
namespace Go.Proofs.Yticmfmcflikneaa
open Go.RowKit Go.Sort
set_option linter.unusedVariables false

def near (m : Int) (p : Pt) : Prop := (-m ≤ p.1 ∧ p.1 ≤ m) ∧ (-m ≤ p.2 ∧ p.2 ≤ m)
theorem near_far {p : Pt} : farB p = false ↔ near 8000 p :=
  ⟨fun h => farB_in (x := p.1) (y := p.2) h, fun h => far_of h⟩
theorem near_within {x y m : Int} (hm : 0 ≤ m ∧ m ≤ 8000) : withinB x y m = true ↔ near m (x, y) := by
  unfold withinB near
  rw [wneg_in (by omega)]
  simp only [Bool.and_eq_true, decide_eq_true_eq, and_assoc]
theorem dotP_exact {v d : Pt} (hv : farB v = false) (hd : farB d = false) : dotP v d = lin d.1 d.2 v := by
  have h1 := near_far.1 hv
  have h2 := near_far.1 hd
  unfold near at h1 h2
  unfold dotP lin
  rw [dot_exact (by omega) (by omega) (by omega) (by omega), Int.mul_comm v.1, Int.mul_comm v.2]
theorem lin_bound {v d : Pt} (hv : farB v = false) (hd : farB d = false) : -128000000 ≤ lin d.1 d.2 v ∧ lin d.1 d.2 v ≤ 128000000 := by
  have h1 := near_far.1 hv
  have h2 := near_far.1 hd
  unfold near at h1 h2
  have m1 := mul_bound d.1 v.1 8000 8000 (by omega) (by omega) (by omega) (by omega)
  have m2 := mul_bound d.2 v.2 8000 8000 (by omega) (by omega) (by omega) (by omega)
  unfold lin
  omega
theorem dotMax_mem (d : Pt) : ∀ (l : List Pt) (m : Int), dotMax d m l = m ∨ ∃ v ∈ l, dotP v d = dotMax d m l
  | [], m => .inl rfl
  | x :: l, m => by
    unfold dotMax
    rw [List.foldl_cons]
    rcases dotMax_mem d l (max m (dotP x d)) with h | ⟨v, hv, h⟩
    · unfold dotMax at h
      rw [h]
      rcases Int.le_total m (dotP x d) with q | q
      · rw [Int.max_eq_right q]; exact .inr ⟨x, by simp, rfl⟩
      · rw [Int.max_eq_left q]; exact .inl rfl
    · unfold dotMax at h
      exact .inr ⟨v, List.mem_cons_of_mem _ hv, h⟩
theorem dotMax_le (d : Pt) (K : Int) : ∀ (l : List Pt) (m : Int), dotMax d m l ≤ K ↔ m ≤ K ∧ ∀ v ∈ l, dotP v d ≤ K
  | [], m => by simp [dotMax]
  | x :: l, m => by
    unfold dotMax
    rw [List.foldl_cons]
    have := dotMax_le d K l (max m (dotP x d))
    unfold dotMax at this
    rw [this]
    constructor
    · rintro ⟨h1, h2⟩
      refine ⟨by omega, fun v hv => ?_⟩
      rcases List.mem_cons.1 hv with rfl | hv
      · omega
      · exact h2 v hv
    · rintro ⟨h1, h2⟩
      exact ⟨by have := h2 x (by simp); omega, fun v hv => h2 v (List.mem_cons_of_mem _ hv)⟩
theorem dotMin_mem (d : Pt) : ∀ (l : List Pt) (m : Int), dotMin d m l = m ∨ ∃ v ∈ l, dotP v d = dotMin d m l
  | [], m => .inl rfl
  | x :: l, m => by
    unfold dotMin
    rw [List.foldl_cons]
    rcases dotMin_mem d l (min m (dotP x d)) with h | ⟨v, hv, h⟩
    · unfold dotMin at h
      rw [h]
      rcases Int.le_total m (dotP x d) with q | q
      · rw [Int.min_eq_left q]; exact .inl rfl
      · rw [Int.min_eq_right q]; exact .inr ⟨x, by simp, rfl⟩
    · unfold dotMin at h
      exact .inr ⟨v, List.mem_cons_of_mem _ hv, h⟩
/-- The greatest value of f over a list. -/
def MaxOf (f : Pt → Int) (r : List Pt) (m : Int) : Prop := (∃ v ∈ r, f v = m) ∧ ∀ v ∈ r, f v ≤ m
def MinOf (f : Pt → Int) (r : List Pt) (m : Int) : Prop := (∃ v ∈ r, f v = m) ∧ ∀ v ∈ r, m ≤ f v
theorem MaxOf.unique {f : Pt → Int} {r : List Pt} {m n : Int} (h : MaxOf f r m) (k : MaxOf f r n) : m = n := by
  obtain ⟨⟨v, hv, e⟩, h2⟩ := h
  obtain ⟨⟨u, hu, e'⟩, k2⟩ := k
  have := h2 u hu
  have := k2 v hv
  omega
theorem MinOf.unique {f : Pt → Int} {r : List Pt} {m n : Int} (h : MinOf f r m) (k : MinOf f r n) : m = n := by
  obtain ⟨⟨v, hv, e⟩, h2⟩ := h
  obtain ⟨⟨u, hu, e'⟩, k2⟩ := k
  have := h2 u hu
  have := k2 v hv
  omega
theorem dotMax_is {d : Pt} {r : List Pt} (h0 : 0 < r.length) (hf : r.any farB = false) (hd : farB d = false) : MaxOf (lin d.1 d.2) r (dotMax d (dotP (at0 r 0) d) r) := by
  have hx : ∀ v ∈ r, dotP v d = lin d.1 d.2 v := fun v hv => dotP_exact (far_false hf hv) hd
  have h00 := at0_mem h0
  obtain ⟨h1, h2⟩ := (dotMax_le d _ r (dotP (at0 r 0) d)).1 (Int.le_refl _)
  refine ⟨?_, fun v hv => by rw [← hx v hv]; exact h2 v hv⟩
  rcases dotMax_mem d r (dotP (at0 r 0) d) with h | ⟨v, hv, h⟩
  · exact ⟨_, h00, by rw [h, hx _ h00]⟩
  · exact ⟨v, hv, by rw [← hx v hv, h]⟩
theorem dotMin_is {d : Pt} {r : List Pt} (h0 : 0 < r.length) (hf : r.any farB = false) (hd : farB d = false) : MinOf (lin d.1 d.2) r (dotMin d (dotP (at0 r 0) d) r) := by
  have hx : ∀ v ∈ r, dotP v d = lin d.1 d.2 v := fun v hv => dotP_exact (far_false hf hv) hd
  have h00 := at0_mem h0
  obtain ⟨h1, h2⟩ := (le_dotMin d _ r (dotP (at0 r 0) d)).1 (Int.le_refl _)
  refine ⟨?_, fun v hv => by rw [← hx v hv]; exact h2 v hv⟩
  rcases dotMin_mem d r (dotP (at0 r 0) d) with h | ⟨v, hv, h⟩
  · exact ⟨_, h00, by rw [h, hx _ h00]⟩
  · exact ⟨v, hv, by rw [← hx v hv, h]⟩
theorem checkR_ok {r : List Pt} {d : Pt} (hc : convexB r = true) (hd : farB d = false) : checkR r d = 0 := by
  unfold checkR; rw [if_pos hc, hd]; rfl
theorem wid_spec {r : List Pt} {d : Pt} (hc : convexB r = true) (hd : farB d = false) : ∃ M m, widRes r d = (M - m, 0) ∧ MaxOf (lin d.1 d.2) r M ∧ MinOf (lin d.1 d.2) r m ∧ m ≤ M ∧ -128000000 ≤ m ∧ M ≤ 128000000 := by
  obtain ⟨h3, -, hf, -⟩ := convexB_iff.1 hc
  have h1 := dotMax_is (d := d) (by omega) hf hd
  have h2 := dotMin_is (d := d) (by omega) hf hd
  have hle : dotMin d (dotP (at0 r 0) d) r ≤ dotMax d (dotP (at0 r 0) d) r := by
    obtain ⟨v, hv, e⟩ := h1.1
    have := h2.2 v hv
    omega
  have hb : ∀ v ∈ r, -128000000 ≤ lin d.1 d.2 v ∧ lin d.1 d.2 v ≤ 128000000 := fun v hv => lin_bound (far_false hf hv) hd
  have hM : dotMax d (dotP (at0 r 0) d) r ≤ 128000000 := by
    obtain ⟨v, hv, e⟩ := h1.1
    have := hb v hv
    omega
  have hm : -128000000 ≤ dotMin d (dotP (at0 r 0) d) r := by
    obtain ⟨v, hv, e⟩ := h2.1
    have := hb v hv
    omega
  refine ⟨_, _, ?_, h1, h2, hle, hm, hM⟩
  rw [wid_one]
  unfold widRef
  rw [if_pos (checkR_ok hc hd), wsub_in (by omega)]
theorem far_spec {r : List Pt} {d : Pt} (hc : convexB r = true) (hd : farB d = false) : ∃ a, farRes r d = (a, 0) ∧ a ∈ r ∧ MaxOf (lin d.1 d.2) r (lin d.1 d.2 a) := by
  obtain ⟨h3, -, hf, -⟩ := convexB_iff.1 hc
  have ha : farthest r d ∈ r := fold_mem d r _ (at0_mem (by omega)) (fun v hv => hv)
  refine ⟨farthest r d, by rw [farRes_check, if_pos (checkR_ok hc hd)], ha, ?_⟩
  have h1 := dotMax_is (d := d) (by omega) hf hd
  rw [← dotP_fold] at h1
  rw [← dotP_exact (far_false hf ha) hd]
  exact h1
def tr (v p : Pt) : Pt := (p.1 + v.1, p.2 + v.2)
theorem det_tr (v a b c : Pt) : det (tr v a) (tr v b) (tr v c) = det a b c := by unfold det tr; grind
theorem at0_map {f : Pt → Pt} {r : List Pt} {i : Nat} (h : i < r.length) : at0 (r.map f) i = f (at0 r i) := by
  rw [at0_eq (by simpa using h), at0_eq h, List.getElem_map]
theorem rv_map {f : Pt → Pt} {r : List Pt} {i : Nat} (h : 0 < r.length) : rv (r.map f) i = f (rv r i) := by
  unfold rv
  rw [List.length_map, at0_map (Nat.mod_lt _ h)]
theorem IsHull.moved {l r : List Pt} (h : IsHull l r) (v : Pt) : IsHull (l.map (tr v)) (r.map (tr v)) := by
  have h3 := h.three
  refine ⟨by simpa using h3, fun i k hi hk h1 h2 => ?_, fun i hi q hq => ?_, fun q hq => ?_⟩
  · rw [List.length_map] at hi hk h2
    rw [at0_map hi, at0_map hk, rv_map (by omega), det_tr]
    exact h.convex i k hi hk h1 h2
  · rw [List.length_map] at hi
    obtain ⟨p, hp, rfl⟩ := List.mem_map.1 hq
    rw [at0_map hi, rv_map (by omega), det_tr]
    exact h.left i hi p hp
  · obtain ⟨p, hp, rfl⟩ := List.mem_map.1 hq
    exact List.mem_map.2 ⟨p, h.sub p hp, rfl⟩
theorem lexy_tr {v p q : Pt} : lexy (tr v p) (tr v q) ↔ lexy p q := by unfold lexy tr; simp only; omega
theorem HullY.moved {l r : List Pt} (h : HullY l r) (v : Pt) : HullY (l.map (tr v)) (r.map (tr v)) := by
  have h3 := h.hull.three
  refine ⟨h.hull.moved v, fun q hq => ?_⟩
  obtain ⟨p, hp, rfl⟩ := List.mem_map.1 hq
  rw [at0_map (by omega), lexy_tr]
  rcases h.first p hp with e | e
  · exact .inl (by rw [e])
  · exact .inr e
theorem Flat.moved {l : List Pt} (h : Flat l) (v : Pt) : Flat (l.map (tr v)) := by
  intro a ha b hb c hc
  obtain ⟨a', ka, rfl⟩ := List.mem_map.1 ha
  obtain ⟨b', kb, rfl⟩ := List.mem_map.1 hb
  obtain ⟨c', kc, rfl⟩ := List.mem_map.1 hc
  rw [det_tr]
  exact h a' ka b' kb c' kc
theorem lin_tr (k m : Int) (v p : Pt) : lin k m (tr v p) = lin k m p + lin k m v := by unfold lin tr; grind
theorem MaxOf.moved {k m M : Int} {r : List Pt} (h : MaxOf (lin k m) r M) (v : Pt) : MaxOf (lin k m) (r.map (tr v)) (M + lin k m v) := by
  obtain ⟨⟨u, hu, e⟩, h2⟩ := h
  refine ⟨⟨tr v u, List.mem_map.2 ⟨u, hu, rfl⟩, by rw [lin_tr, e]⟩, fun q hq => ?_⟩
  obtain ⟨p, hp, rfl⟩ := List.mem_map.1 hq
  rw [lin_tr]
  have := h2 p hp
  omega
theorem MinOf.moved {k m M : Int} {r : List Pt} (h : MinOf (lin k m) r M) (v : Pt) : MinOf (lin k m) (r.map (tr v)) (M + lin k m v) := by
  obtain ⟨⟨u, hu, e⟩, h2⟩ := h
  refine ⟨⟨tr v u, List.mem_map.2 ⟨u, hu, rfl⟩, by rw [lin_tr, e]⟩, fun q hq => ?_⟩
  obtain ⟨p, hp, rfl⟩ := List.mem_map.1 hq
  rw [lin_tr]
  have := h2 p hp
  omega
theorem MaxOf.neg {k m M : Int} {r : List Pt} (h : MaxOf (lin (-k) (-m)) r M) : MinOf (lin k m) r (-M) := by
  obtain ⟨⟨u, hu, e⟩, h2⟩ := h
  rw [lin_neg] at e
  refine ⟨⟨u, hu, by omega⟩, fun q hq => ?_⟩
  have := h2 q hq
  rw [lin_neg] at this
  omega
/-- What HullWidth asks: the same width for the moved ring; the width is the scalar product with the difference of the farthest vertices. -/
theorem width_law {l r : List Pt} {d v : Pt} (hf : l.any farB = false) (h4 : ∀ p ∈ l, near 4000 p) (hd : near 2000 d) (hv : near 2000 v) (h : HullY l r) (h160 : r.length ≤ 160) :
    ∃ (W : Int) (a b : Pt), widRes r d = (W, 0) ∧ widRes (r.map (tr v)) d = (W, 0) ∧ farRes r d = (a, 0) ∧ farRes r (-d.1, -d.2) = (b, 0) ∧ W = dotI d.1 d.2 (wsub a.1 b.1) (wsub a.2 b.2) ∧ 0 ≤ W ∧ a ∈ r := by
  have hdf : farB d = false := near_far.2 (by unfold near at *; omega)
  have hdn : farB (-d.1, -d.2) = false := near_far.2 (by unfold near at *; simp only; omega)
  have hc := hull_convexB hf h.hull h160
  have hf2 : (l.map (tr v)).any farB = false := List.any_eq_false.2 fun q hq => by
    obtain ⟨p, hp, rfl⟩ := List.mem_map.1 hq
    have := h4 p hp
    rw [near_far.2 (by unfold near tr at *; simp only; omega)]
    decide
  have hc2 := hull_convexB hf2 (h.hull.moved v) (by simpa using h160)
  obtain ⟨M, m, e1, a1, a2, a3, a4, a5⟩ := wid_spec hc hdf
  obtain ⟨M2, m2, e2, b1, b2, b3, -, -⟩ := wid_spec hc2 hdf
  obtain ⟨a, e3, c1, c2⟩ := far_spec hc hdf
  obtain ⟨b, e4, d1, d2⟩ := far_spec hc hdn
  have q1 := b1.unique (a1.moved v)
  have q2 := b2.unique (a2.moved v)
  have q3 := c2.unique a1
  have q4 := d2.neg.unique a2
  rw [lin_neg] at q4
  refine ⟨M - m, a, b, e1, by rw [e2, q1, q2]; congr 1; omega, e3, e4, ?_, by omega, c1⟩
  have fa := near_far.1 (far_false hf (h.hull.sub a c1))
  have fb := near_far.1 (far_false hf (h.hull.sub b d1))
  unfold near at fa fb hd
  rw [wsub_in (by omega), wsub_in (by omega), dot_exact (by omega) (by omega) (by omega) (by omega)]
  have : lin d.1 d.2 a - lin d.1 d.2 b = d.1 * (a.1 - b.1) + d.2 * (a.2 - b.2) := by unfold lin; rw [Int.mul_sub, Int.mul_sub]; omega
  rw [← this]
  omega
theorem cauchy (d x : Pt) : (d.1 * x.1 + d.2 * x.2) * (d.1 * x.1 + d.2 * x.2) ≤ (x.1 * x.1 + x.2 * x.2) * (d.1 * d.1 + d.2 * d.2) := by
  have h : (x.1 * x.1 + x.2 * x.2) * (d.1 * d.1 + d.2 * d.2) = (d.1 * x.1 + d.2 * x.2) * (d.1 * x.1 + d.2 * x.2) + (d.1 * x.2 - d.2 * x.1) * (d.1 * x.2 - d.2 * x.1) := by grind
  have h2 : 0 ≤ (d.1 * x.2 - d.2 * x.1) * (d.1 * x.2 - d.2 * x.1) := by
    rcases Int.le_total 0 (d.1 * x.2 - d.2 * x.1) with q | q
    · exact Int.mul_nonneg q q
    · exact Int.mul_nonneg_of_nonpos_of_nonpos q q
  omega
theorem nrm_pos {a b : Pt} (h : a ≠ b) : 0 < nrm a b := by
  have h0 := nrm_nonneg a b
  rcases Int.lt_or_eq_of_le h0 with h1 | h1
  · exact h1
  · exfalso
    apply h
    unfold nrm at h1
    have sq : ∀ x : Int, 0 ≤ x * x := fun x => by
      rcases Int.le_total 0 x with q | q
      · exact Int.mul_nonneg q q
      · exact Int.mul_nonneg_of_nonpos_of_nonpos q q
    have s1 := sq (b.1 - a.1)
    have s2 := sq (b.2 - a.2)
    have z1 : (b.1 - a.1) * (b.1 - a.1) = 0 := by omega
    have z2 : (b.2 - a.2) * (b.2 - a.2) = 0 := by omega
    have w1 : b.1 - a.1 = 0 := by rcases Int.mul_eq_zero.1 z1 with h | h <;> exact h
    have w2 : b.2 - a.2 = 0 := by rcases Int.mul_eq_zero.1 z2 with h | h <;> exact h
    exact Prod.ext (by omega) (by omega)
theorem dia_law {r : List Pt} (hc : convexB r = true) : (∃ i, i < r.length ∧ ∃ k, k < i ∧ d2 (at0 r i) (at0 r k) = dia r) ∧ 0 < dia r ∧ ∀ a ∈ r, ∀ b ∈ r, d2 a b ≤ dia r := by
  obtain ⟨h3, -, hf, hcv⟩ := convexB_iff.1 hc
  have e := dia_one hc
  have hall := (diaTo_le r (dia r) r 0).1 (by unfold dia; exact Int.le_refl _)
  have hne := hcv.ne h3 (i := 0) (k := 1) (by omega) (by omega) (by omega)
  have hp : 0 < dia r := by
    have h1 := hall.2 _ (at0_mem (i := 0) (by omega)) _ (at0_mem (i := 1) (by omega))
    rw [d2_exact (far_false hf (at0_mem (by omega))) (far_false hf (at0_mem (by omega)))] at h1
    have := nrm_pos hne
    omega
  refine ⟨?_, hp, hall.2⟩
  apply Classical.byContradiction
  intro hno
  have h1 := (diaR_le r (dia r - 1) r.length (Nat.le_refl _)).2 ⟨by omega, fun i hi k hk => by
    have h2 := hall.2 _ (at0_mem (i := i) hi) _ (at0_mem (i := k) (by omega))
    have h4 : d2 (at0 r i) (at0 r k) ≠ dia r := fun q => hno ⟨i, hi, k, hk, q⟩
    omega⟩
  omega
/-- What HullDiameter asks. -/
theorem diameter_law {l r : List Pt} {d : Pt} (h2 : ∀ p ∈ l, near 2000 p) (hd : near 2000 d) (h : HullY l r) (h160 : r.length ≤ 160) :
    ∃ W : Int, widRes r d = (W, 0) ∧ wmul W W ≤ wmul (dia r) (dotI d.1 d.2 d.1 d.2) := by
  have hf : l.any farB = false := List.any_eq_false.2 fun p hp => by
    have := h2 p hp
    rw [near_far.2 (by unfold near at *; omega)]
    decide
  have hdf : farB d = false := near_far.2 (by unfold near at *; omega)
  have hc := hull_convexB hf h.hull h160
  obtain ⟨M, m, e1, ⟨⟨a, ha, ea⟩, a1⟩, ⟨⟨b, hb, eb⟩, a2⟩, a3, -, -⟩ := wid_spec hc hdf
  refine ⟨M - m, e1, ?_⟩
  have na := h2 a (h.hull.sub a ha)
  have nb := h2 b (h.hull.sub b hb)
  obtain ⟨⟨i, hi, k, hk, edi⟩, hpos, hdia⟩ := dia_law hc
  have hab := hdia a ha b hb
  have bd : dia r ≤ 32000000 := by
    have n1 := h2 _ (h.hull.sub _ (at0_mem hi))
    have n2 := h2 _ (h.hull.sub _ (at0_mem (i := k) (by omega)))
    rw [← edi, d2_exact (near_far.2 (by unfold near at *; omega)) (near_far.2 (by unfold near at *; omega))]
    unfold nrm
    generalize at0 r i = p at *
    generalize at0 r k = q at *
    unfold near at n1 n2
    have m1 := mul_bound (p.1 - q.1) (p.1 - q.1) 4000 4000 (by omega) (by omega) (by omega) (by omega)
    have m2 := mul_bound (p.2 - q.2) (p.2 - q.2) 4000 4000 (by omega) (by omega) (by omega) (by omega)
    omega
  rw [d2_exact (near_far.2 (by unfold near at *; omega)) (near_far.2 (by unfold near at *; omega))] at hab
  have hw : M - m = d.1 * (a.1 - b.1) + d.2 * (a.2 - b.2) := by
    rw [← ea, ← eb]; unfold lin; rw [Int.mul_sub, Int.mul_sub]; omega
  have hcs := cauchy d (a.1 - b.1, a.2 - b.2)
  simp only at hcs
  rw [← hw] at hcs
  have hn : (a.1 - b.1) * (a.1 - b.1) + (a.2 - b.2) * (a.2 - b.2) = nrm b a := rfl
  rw [hn] at hcs
  unfold near at na nb hd
  have dd := dot_exact (a := d.1) (b := d.2) (c := d.1) (d := d.2) (by omega) (by omega) (by omega) (by omega)
  rw [dd]
  have k1 := mul_bound d.1 d.1 2000 2000 (by omega) (by omega) (by omega) (by omega)
  have k2 := mul_bound d.2 d.2 2000 2000 (by omega) (by omega) (by omega) (by omega)
  have s1 : 0 ≤ d.1 * d.1 + d.2 * d.2 := by
    have sq : ∀ x : Int, 0 ≤ x * x := fun x => by
      rcases Int.le_total 0 x with q | q
      · exact Int.mul_nonneg q q
      · exact Int.mul_nonneg_of_nonpos_of_nonpos q q
    have := sq d.1
    have := sq d.2
    omega
  have hle : nrm b a * (d.1 * d.1 + d.2 * d.2) ≤ dia r * (d.1 * d.1 + d.2 * d.2) := Int.mul_le_mul_of_nonneg_right hab s1
  have bw1 := mul_bound d.1 (a.1 - b.1) 2000 4000 (by omega) (by omega) (by omega) (by omega)
  have bw2 := mul_bound d.2 (a.2 - b.2) 2000 4000 (by omega) (by omega) (by omega) (by omega)
  have bww := mul_bound (M - m) (M - m) 16000000 16000000 (by omega) (by omega) (by omega) (by omega)
  have bdd := mul_bound (dia r) (d.1 * d.1 + d.2 * d.2) 32000000 8000000 (by omega) (by omega) (by omega) (by omega)
  rw [wmul_in (by omega), wmul_in (by omega)]
  omega
end Go.Proofs.Yticmfmcflikneaa
