/- Layer 18 (plain): clearances as linear forms; the octagon's greatest value. -/
import Derived.Test.YticmfmcflikneaaOffP2
import Derived.Test.YticmfmcflikneaaHull28
namespace Go.Proofs.Yticmfmcflikneaa
open Go.RowKit Go.Sort
set_option linter.unusedVariables false

/-- The octagon's eight points; for 0 they are all (0, 0). -/
def octS (k : Int) : List Pt := octP k (octH k)
def ab (x : Int) : Int := if 0 ≤ x then x else -x
def octM (k K L : Int) : Int := max (ab K * k + ab L * octH k) (ab K * octH k + ab L * k)
theorem ab_nonneg (x : Int) : 0 ≤ ab x := by unfold ab; split <;> omega
theorem ab_neg (x : Int) : ab (-x) = ab x := by unfold ab; split <;> split <;> omega
theorem ab_sq (x : Int) : ab x * ab x = x * x := by unfold ab; split <;> grind
theorem ab_pos {x : Int} (h : x ≠ 0) : 1 ≤ ab x := by unfold ab; split <;> omega
theorem octM_neg (k K L : Int) : octM k (-K) (-L) = octM k K L := by unfold octM; rw [ab_neg, ab_neg]
theorem octM_swap (k K L : Int) : octM k L K = octM k K L := by unfold octM; omega
theorem octM_neg1 (k K L : Int) : octM k (-K) L = octM k K L := by unfold octM; rw [ab_neg]
theorem octM_neg2 (k K L : Int) : octM k K (-L) = octM k K L := by unfold octM; rw [ab_neg]
theorem octH_nonneg {k : Int} (h : 0 ≤ k) : 0 ≤ octH k := by unfold octH; omega
theorem octH_le {k : Int} (h : 0 ≤ k) : octH k ≤ k := by unfold octH; omega
theorem octH_mono {j k : Int} (h : j ≤ k) : octH j ≤ octH k := by unfold octH; omega
theorem four_le (K L a b : Int) (ha : 0 ≤ a) (hb : 0 ≤ b) :
    lin K L (a, b) ≤ ab K * a + ab L * b ∧ lin K L (a, -b) ≤ ab K * a + ab L * b ∧ lin K L (-a, b) ≤ ab K * a + ab L * b ∧ lin K L (-a, -b) ≤ ab K * a + ab L * b ∧
    (lin K L (a, b) = ab K * a + ab L * b ∨ lin K L (a, -b) = ab K * a + ab L * b ∨ lin K L (-a, b) = ab K * a + ab L * b ∨ lin K L (-a, -b) = ab K * a + ab L * b) := by
  unfold lin ab
  simp only [Int.mul_neg]
  rcases Int.le_total 0 K with hK | hK <;> rcases Int.le_total 0 L with hL | hL
  · have m1 := Int.mul_nonneg hK ha
    have m2 := Int.mul_nonneg hL hb
    rw [if_pos hK, if_pos hL]
    omega
  · have m1 := Int.mul_nonneg hK ha
    have m2 := Int.mul_nonneg (a := -L) (by omega) hb
    rw [Int.neg_mul] at m2
    by_cases hz : 0 ≤ L
    · have : L = 0 := by omega
      subst this
      rw [if_pos hK, if_pos hz]
      simp
      omega
    · rw [if_pos hK, if_neg hz, Int.neg_mul]
      omega
  · have m1 := Int.mul_nonneg (a := -K) (by omega) ha
    have m2 := Int.mul_nonneg hL hb
    rw [Int.neg_mul] at m1
    by_cases hz : 0 ≤ K
    · have : K = 0 := by omega
      subst this
      rw [if_pos hz, if_pos hL]
      simp
      omega
    · rw [if_neg hz, if_pos hL, Int.neg_mul]
      omega
  · have m1 := Int.mul_nonneg (a := -K) (by omega) ha
    have m2 := Int.mul_nonneg (a := -L) (by omega) hb
    rw [Int.neg_mul] at m1 m2
    by_cases hz : 0 ≤ K <;> by_cases hy : 0 ≤ L
    · have : K = 0 := by omega
      have : L = 0 := by omega
      subst K L
      simp
    · have : K = 0 := by omega
      subst this
      rw [if_pos hz, if_neg hy, Int.neg_mul]
      simp
      omega
    · have : L = 0 := by omega
      subst this
      rw [if_neg hz, if_pos hy, Int.neg_mul]
      simp
      omega
    · rw [if_neg hz, if_neg hy, Int.neg_mul, Int.neg_mul]
      omega
theorem octM_le {k : Int} (h0 : 0 ≤ k) (K L : Int) : ∀ o ∈ octS k, lin K L o ≤ octM k K L := by
  obtain ⟨a1, a2, a3, a4, -⟩ := four_le K L k (octH k) h0 (octH_nonneg h0)
  obtain ⟨b1, b2, b3, b4, -⟩ := four_le K L (octH k) k (octH_nonneg h0) h0
  intro o ho
  unfold octS octP at ho
  unfold octM
  simp only [List.mem_cons, List.not_mem_nil, or_false] at ho
  rcases ho with rfl | rfl | rfl | rfl | rfl | rfl | rfl | rfl <;> omega
theorem octM_at {k : Int} (h0 : 0 ≤ k) (K L : Int) : ∃ o ∈ octS k, lin K L o = octM k K L := by
  obtain ⟨-, -, -, -, a⟩ := four_le K L k (octH k) h0 (octH_nonneg h0)
  obtain ⟨-, -, -, -, b⟩ := four_le K L (octH k) k (octH_nonneg h0) h0
  unfold octM
  rcases Int.le_total (ab K * k + ab L * octH k) (ab K * octH k + ab L * k) with h | h
  · rw [Int.max_eq_right h]
    rcases b with b | b | b | b
    · exact ⟨_, by simp [octS, octP], b⟩
    · exact ⟨_, by simp [octS, octP], b⟩
    · exact ⟨_, by simp [octS, octP], b⟩
    · exact ⟨_, by simp [octS, octP], b⟩
  · rw [Int.max_eq_left h]
    rcases a with a | a | a | a
    · exact ⟨_, by simp [octS, octP], a⟩
    · exact ⟨_, by simp [octS, octP], a⟩
    · exact ⟨_, by simp [octS, octP], a⟩
    · exact ⟨_, by simp [octS, octP], a⟩
theorem octM_mono {j k : Int} (h : j ≤ k) (K L : Int) : octM j K L ≤ octM k K L := by
  have a1 := Int.mul_le_mul_of_nonneg_left h (ab_nonneg K)
  have a2 := Int.mul_le_mul_of_nonneg_left h (ab_nonneg L)
  have b1 := Int.mul_le_mul_of_nonneg_left (octH_mono h) (ab_nonneg K)
  have b2 := Int.mul_le_mul_of_nonneg_left (octH_mono h) (ab_nonneg L)
  unfold octM
  omega
theorem octM_nonneg {k : Int} (h0 : 0 ≤ k) (K L : Int) : 0 ≤ octM k K L := by
  have a1 := Int.mul_nonneg (ab_nonneg K) h0
  have a2 := Int.mul_nonneg (ab_nonneg L) (octH_nonneg h0)
  unfold octM
  omega
theorem disc_form {A B k M : Int} (hA : 0 ≤ A) (hB : 0 ≤ B) (hk : 0 ≤ k) (hM : 0 ≤ M) (hAB : B ≤ A) (h : k * (12 * A + 5 * B) ≤ 12 * M) : k * k * (A * A + B * B) ≤ M * M := by
  have p0 : 0 ≤ k * (12 * A + 5 * B) := Int.mul_nonneg hk (by omega)
  have p1 : (k * (12 * A + 5 * B)) * (k * (12 * A + 5 * B)) ≤ (12 * M) * (12 * M) := Int.mul_le_mul h h p0 (by omega)
  have p2 : 0 ≤ B * (120 * A - 119 * B) := Int.mul_nonneg hB (by omega)
  have p3 : 0 ≤ (k * k) * (B * (120 * A - 119 * B)) := Int.mul_nonneg (Int.mul_nonneg hk hk) p2
  have e1 : (k * (12 * A + 5 * B)) * (k * (12 * A + 5 * B)) = 144 * (k * k * (A * A + B * B)) + (k * k) * (B * (120 * A - 119 * B)) := by grind
  have e2 : (12 * M) * (12 * M) = 144 * (M * M) := by grind
  rw [e1, e2] at p1
  omega
/-- The octagon contains the disc. -/
theorem octM_disc {k : Int} (h0 : 0 ≤ k) (K L : Int) : k * k * (K * K + L * L) ≤ octM k K L * octM k K L := by
  have hM := octM_nonneg h0 K L
  have hh : 5 * k ≤ 12 * octH k := by unfold octH; omega
  have nA := ab_nonneg K
  have nB := ab_nonneg L
  rw [← ab_sq K, ← ab_sq L]
  rcases Int.le_total (ab L) (ab K) with h | h
  · refine disc_form nA nB h0 hM h ?_
    have a2 := Int.mul_le_mul_of_nonneg_left hh nB
    have e1 : k * (12 * ab K + 5 * ab L) = 12 * (ab K * k) + ab L * (5 * k) := by grind
    have e2 : ab L * (12 * octH k) = 12 * (ab L * octH k) := by grind
    rw [e2] at a2
    rw [e1]
    unfold octM
    omega
  · rw [Int.add_comm]
    refine disc_form nB nA h0 hM h ?_
    have a2 := Int.mul_le_mul_of_nonneg_left hh nA
    have e1 : k * (12 * ab L + 5 * ab K) = 12 * (ab L * k) + ab K * (5 * k) := by grind
    have e2 : ab K * (12 * octH k) = 12 * (ab K * octH k) := by grind
    rw [e2] at a2
    rw [e1]
    unfold octM
    omega
theorem octR_max {k : Int} (h0 : 0 ≤ k) (h2 : k ≤ 200) (K L c : Int) : (∀ o ∈ octR k, lin K L o ≤ c) ↔ octM k K L ≤ c := by
  have hS : (∀ o ∈ octR k, lin K L o ≤ c) ↔ (∀ o ∈ octS k, lin K L o ≤ c) := by
    by_cases hk : k = 0
    · subst hk
      have e : octS 0 = [(0, 0), (0, 0), (0, 0), (0, 0), (0, 0), (0, 0), (0, 0), (0, 0)] := by decide
      rw [e, show octR 0 = [(0, 0)] from rfl]
      simp
    · unfold octR
      rw [if_neg hk]
      rcases octF_res (k := k) (by omega) h2 with ⟨h, -⟩ | ⟨-, -, -, hy, -⟩
      · omega
      · constructor
        · intro h o ho
          obtain ⟨i, hi, hm⟩ := hy.hull.least (-K) (-L)
          have h1 := hm o ho
          have h3 := h _ (at0_mem hi)
          rw [lin_neg, lin_neg] at h1
          omega
        · exact fun h o ho => h o (hy.hull.sub o ho)
  rw [hS]
  constructor
  · intro h
    obtain ⟨o, ho, e⟩ := octM_at h0 K L
    rw [← e]
    exact h o ho
  · intro h o ho
    exact Int.le_trans (octM_le h0 K L o ho) h
theorem octR_in {k : Int} (h0 : 0 ≤ k) (h2 : k ≤ 200) {o : Pt} (ho : o ∈ octR k) : near k o := by
  have hh := octH_le h0
  have hn := octH_nonneg h0
  have a1 := (octR_max h0 h2 1 0 k).2 (by unfold octM ab; simp; omega) o ho
  have a2 := (octR_max h0 h2 (-1) 0 k).2 (by unfold octM ab; simp; omega) o ho
  have a3 := (octR_max h0 h2 0 1 k).2 (by unfold octM ab; simp; omega) o ho
  have a4 := (octR_max h0 h2 0 (-1) k).2 (by unfold octM ab; simp; omega) o ho
  unfold lin at a1 a2 a3 a4
  unfold near
  omega
theorem sum_exact {p o : Pt} (hp : near 8000 p) (ho : near 8000 o) : sumOf p o = (p.1 + o.1, p.2 + o.2) := by
  unfold near at hp ho
  unfold sumOf
  rw [wadd_in (by omega), wadd_in (by omega)]
theorem lin_sum (K L : Int) (p o : Pt) : lin K L (p.1 + o.1, p.2 + o.2) = lin K L p + lin K L o := by unfold lin; grind
theorem sums_max {k : Int} (h0 : 0 ≤ k) (h2 : k ≤ 200) {r : List Pt} (hr : ∀ p ∈ r, near 8000 p) (K L c : Int) : (∀ v ∈ sumsL r (octR k), lin K L v ≤ c) ↔ ∀ p ∈ r, lin K L p + octM k K L ≤ c := by
  unfold sumsL
  constructor
  · intro h p hp
    have := (octR_max h0 h2 K L (c - lin K L p)).1 (fun o ho => by
      have := h (sumOf p o) (List.mem_flatMap.2 ⟨p, hp, List.mem_map.2 ⟨o, ho, rfl⟩⟩)
      have hb := octR_in h0 h2 ho
      rw [sum_exact (hr p hp) (by unfold near at *; omega), lin_sum] at this
      omega)
    omega
  · intro h v hv
    obtain ⟨p, hp, hv⟩ := List.mem_flatMap.1 hv
    obtain ⟨o, ho, rfl⟩ := List.mem_map.1 hv
    have hb := octR_in h0 h2 ho
    rw [sum_exact (hr p hp) (by unfold near at *; omega), lin_sum]
    have := (octR_max h0 h2 K L (octM k K L)).2 (Int.le_refl _) o ho
    have := h p hp
    omega
theorem far_any {l : List Pt} : l.any farB = false ↔ ∀ p ∈ l, near 8000 p := by
  constructor
  · intro h p hp
    exact near_far.1 (far_false h hp)
  · intro h
    exact List.any_eq_false.2 (fun p hp => by rw [near_far.2 (h p hp)]; decide)
/-- Rings that can be widened by k. -/
def Fits (k : Int) (r : List Pt) : Prop := convexB r = true ∧ r.length ≤ 20 ∧ ∀ p ∈ r, near (8000 - k) p
theorem Fits.less {j k : Int} (h : j ≤ k) {r : List Pt} (hf : Fits k r) : Fits j r := ⟨hf.1, hf.2.1, fun p hp => by have := hf.2.2 p hp; unfold near at *; omega⟩
theorem sums_near {k : Int} (h0 : 0 ≤ k) (h2 : k ≤ 200) {r : List Pt} (hr : ∀ p ∈ r, near 8000 p) : (sumsL r (octR k)).any farB = false ↔ ∀ p ∈ r, near (8000 - k) p := by
  have hh := octH_le h0
  have hn := octH_nonneg h0
  have m1 : octM k 1 0 = k := by unfold octM ab; simp; omega
  have m2 : octM k (-1) 0 = k := by unfold octM ab; simp; omega
  have m3 : octM k 0 1 = k := by unfold octM ab; simp; omega
  have m4 : octM k 0 (-1) = k := by unfold octM ab; simp; omega
  have s1 := sums_max h0 h2 hr 1 0 8000
  have s2 := sums_max h0 h2 hr (-1) 0 8000
  have s3 := sums_max h0 h2 hr 0 1 8000
  have s4 := sums_max h0 h2 hr 0 (-1) 8000
  rw [m1] at s1
  rw [m2] at s2
  rw [m3] at s3
  rw [m4] at s4
  unfold lin at s1 s2 s3 s4
  rw [far_any]
  constructor
  · intro h p hp
    have t1 := s1.1 (fun v hv => by have := h v hv; unfold near at this; omega) p hp
    have t2 := s2.1 (fun v hv => by have := h v hv; unfold near at this; omega) p hp
    have t3 := s3.1 (fun v hv => by have := h v hv; unfold near at this; omega) p hp
    have t4 := s4.1 (fun v hv => by have := h v hv; unfold near at this; omega) p hp
    unfold near
    omega
  · intro h v hv
    have t1 := s1.2 (fun p hp => by have := h p hp; unfold near at this; omega) v hv
    have t2 := s2.2 (fun p hp => by have := h p hp; unfold near at this; omega) v hv
    have t3 := s3.2 (fun p hp => by have := h p hp; unfold near at this; omega) v hv
    have t4 := s4.2 (fun p hp => by have := h p hp; unfold near at this; omega) v hv
    unfold near
    omega
theorem octR_some (k : Int) (h0 : 0 ≤ k) (h2 : k ≤ 200) : ∃ o, o ∈ octR k := by
  unfold octR
  split
  · exact ⟨(0, 0), by simp⟩
  · rcases octF_res (k := k) (by omega) h2 with ⟨h, -⟩ | ⟨-, -, -, hy, -⟩
    · omega
    · exact ⟨_, at0_mem (i := 0) (by have := hy.hull.three; omega)⟩
theorem convex_not_flat {r : List Pt} (h : convexB r = true) : ∃ u ∈ r, ∃ v ∈ r, ∃ w ∈ r, 0 < det u v w := by
  obtain ⟨h3, -, -, hc⟩ := convexB_iff.1 h
  have := hc 0 (by omega) 2 (by omega) (by omega) (by rw [Nat.mod_eq_of_lt (by omega)]; omega)
  exact ⟨_, at0_mem (i := 0) (by omega), _, at0_mem (Nat.mod_lt _ (by omega)), _, at0_mem (i := 2) (by omega), this⟩
theorem sums_not_flat {k : Int} (h0 : 0 ≤ k) (h2 : k ≤ 200) {r : List Pt} (h : convexB r = true) : ¬ Flat (sumsL r (octR k)) := by
  obtain ⟨-, -, hf, -⟩ := convexB_iff.1 h
  have hr := far_any.1 hf
  obtain ⟨u, hu, v, hv, x, hx, hd⟩ := convex_not_flat h
  obtain ⟨o, ho⟩ := octR_some k h0 h2
  have hb : near 8000 o := by have := octR_in h0 h2 ho; unfold near at *; omega
  intro hF
  have hm : ∀ p ∈ r, (p.1 + o.1, p.2 + o.2) ∈ sumsL r (octR k) := fun p hp => by
    rw [← sum_exact (hr p hp) hb]
    exact List.mem_flatMap.2 ⟨p, hp, List.mem_map.2 ⟨o, ho, rfl⟩⟩
  have := hF _ (hm u hu) _ (hm v hv) _ (hm x hx)
  have e := det_tr o u v x
  unfold tr at e
  omega
theorem grow_fits {k : Int} (h0 : 0 ≤ k) (h2 : k ≤ 200) {r : List Pt} (h : Fits k r) : ∃ s, growF k r = (s, 0) ∧ HullY (sumsL r (octR k)) s ∧ convexB s = true ∧ s.length ≤ 160 := by
  obtain ⟨hc, hl, hn⟩ := h
  obtain ⟨-, -, hf, -⟩ := convexB_iff.1 hc
  have hr := far_any.1 hf
  have hsf := (sums_near h0 h2 hr).2 hn
  have hol := octR_len h0 h2
  have hsl : (sumsL r (octR k)).length ≤ 160 := by
    rw [sumsL_len]
    exact Nat.le_trans (Nat.mul_le_mul hl hol) (by omega)
  have hR := hullF_res (sumsL r (octR k))
  rw [growF_ok hc]
  generalize hullF (sumsL r (octR k)) = x at *
  obtain ⟨x, e⟩ := x
  simp only at hR
  rcases hR with ⟨a, -⟩ | ⟨-, a, -⟩ | ⟨-, -, a, -⟩ | ⟨-, -, s, hy, ⟨a, -⟩ | ⟨a, rfl, rfl⟩⟩
  · omega
  · rw [hsf] at a; cases a
  · exact absurd a (sums_not_flat h0 h2 hc)
  · have := hy.hull.len_le
    omega
  · exact ⟨x, rfl, hy, hull_convexB hsf hy.hull a, a⟩
theorem fits_of {k : Int} (h0 : 0 ≤ k) (h2 : k ≤ 200) {r : List Pt} (hl : r.length ≤ 20) (h : (growF k r).2 = 0) : Fits k r := by
  cases hc : convexB r
  · rw [growF_bad hc] at h
    cases h
  · obtain ⟨-, -, hf, -⟩ := convexB_iff.1 hc
    have hr := far_any.1 hf
    rw [growF_ok hc] at h
    have hR := hullF_res (sumsL r (octR k))
    rw [h] at hR
    exact ⟨hc, hl, (sums_near h0 h2 hr).1 (hullRes_ok hR).2.2⟩
/-- The two rings keep the clearance. -/
def Clear (k : Int) (r s : List Pt) : Prop := ∃ K L, (K ≠ 0 ∨ L ≠ 0) ∧ ∀ p ∈ r, ∀ q ∈ s, lin K L p + octM k K L ≤ lin K L q
theorem Clear.symm {k : Int} {r s : List Pt} (h : Clear k r s) : Clear k s r := by
  obtain ⟨K, L, h1, h2⟩ := h
  refine ⟨-K, -L, by omega, fun q hq p hp => ?_⟩
  have := h2 p hp q hq
  rw [octM_neg, lin_neg, lin_neg]
  omega
theorem Clear.less {j k : Int} (h : j ≤ k) {r s : List Pt} (hc : Clear k r s) : Clear j r s := by
  obtain ⟨K, L, h1, h2⟩ := hc
  refine ⟨K, L, h1, fun p hp q hq => ?_⟩
  have := h2 p hp q hq
  have := octM_mono h K L
  omega
theorem sepB_iff {r s : List Pt} (hr : r.any farB = false) (hs : s.any farB = false) : sepB r s = true ↔ SepD r s := by
  unfold sepB SepD
  rw [List.any_eq_true]
  constructor
  · rintro ⟨i, hi, h⟩
    have hi' : i < r.length := by rw [List.mem_range'_1] at hi; omega
    refine ⟨i, hi', fun q hq => ?_⟩
    unfold sepE at h
    have := List.all_eq_true.1 h q hq
    unfold rightP at this
    rw [decide_eq_true_eq] at this
    have h2 := turn_det (far_false hr (at0_mem hi')) (far_false hr (at0_mem (i := (i + 1) % r.length) (Nat.mod_lt _ (by omega)))) (far_false hs hq)
    have h3 : turnP (vat r i) (vat r ((i + 1) % r.length)) q = cmpi (det (at0 r i) (rv r (i + 1)) q) 0 := h2
    rw [h3] at this
    exact (cmpi_le _).1 this
  · rintro ⟨i, hi, h⟩
    refine ⟨i, by rw [List.mem_range'_1]; omega, List.all_eq_true.2 fun q hq => ?_⟩
    unfold rightP
    rw [decide_eq_true_eq]
    have h2 := turn_det (far_false hr (at0_mem hi)) (far_false hr (at0_mem (i := (i + 1) % r.length) (Nat.mod_lt _ (by omega)))) (far_false hs hq)
    have h3 : turnP (vat r i) (vat r ((i + 1) % r.length)) q = cmpi (det (at0 r i) (rv r (i + 1)) q) 0 := h2
    rw [h3]
    exact (cmpi_le _).2 (h q hq)
theorem sepPair_iff {r s : List Pt} (hr : convexB r = true) (hs : convexB s = true) : sepPair r s = true ↔ Parted r s := by
  obtain ⟨r3, -, rf, rc⟩ := convexB_iff.1 hr
  obtain ⟨s3, -, sf, sc⟩ := convexB_iff.1 hs
  unfold sepPair
  rw [Bool.or_eq_true, sepB_iff rf sf, sepB_iff sf rf]
  exact parted_iff rc r3 sc s3
theorem sep_clear {k : Int} (h0 : 0 ≤ k) (h2 : k ≤ 200) {r s : List Pt} (hr : Fits k r) (hs : convexB s = true) : sepPair (growF k r).1 s = true ↔ Clear k r s := by
  obtain ⟨g, e, hy, hc, -⟩ := grow_fits h0 h2 hr
  obtain ⟨-, -, hf, -⟩ := convexB_iff.1 hr.1
  have hrn := far_any.1 hf
  rw [e, sepPair_iff hc hs]
  constructor
  · rintro ⟨K, L, h⟩
    rw [PartBy.hull hy.hull] at h
    refine ⟨K, L, h.1, fun p hp q hq => ?_⟩
    exact (sums_max h0 h2 hrn K L (lin K L q)).1 (fun v hv => h.2 v hv q hq) p hp
  · rintro ⟨K, L, h1, h⟩
    refine ⟨K, L, (PartBy.hull hy.hull).2 ⟨h1, fun v hv q hq => ?_⟩⟩
    exact (sums_max h0 h2 hrn K L (lin K L q)).2 (fun p hp => h p hp q hq) v hv
theorem growL_ok {k : Int} : ∀ {a : List (List Pt)}, (∀ r ∈ a, (growF k r).2 = 0) → growL k a = (a.map (fun r => (growF k r).1), 0)
  | [], _ => rfl
  | r :: a, h => by
    have ih := growL_ok (k := k) (a := a) (fun r hr => h r (List.mem_cons_of_mem _ hr))
    unfold growL
    rw [if_pos (h r (by simp)), ih, if_pos rfl]
    rfl
theorem growL_all {k : Int} : ∀ {a : List (List Pt)}, (growL k a).2 = 0 → ∀ r ∈ a, (growF k r).2 = 0
  | [], _, r, hr => by cases hr
  | x :: a, h, r, hr => by
    unfold growL at h
    by_cases h1 : (growF k x).2 = 0
    · rw [if_pos h1] at h
      by_cases h2 : (growL k a).2 = 0
      · rcases List.mem_cons.1 hr with rfl | hr
        · exact h1
        · exact growL_all h2 r hr
      · rw [if_neg h2] at h
        exact absurd h h2
    · rw [if_neg h1] at h
      exact absurd h h1
theorem apart_clear {k : Int} (h0 : 0 ≤ k) (h2 : k ≤ 200) {a b : List (List Pt)} (ha : ∀ r ∈ a, Fits k r) (hb : ∀ s ∈ b, convexB s = true) :
    (apartV a b k).2 = 0 ∧ ((apartV a b k).1 = true ↔ ∀ r ∈ a, ∀ s ∈ b, Clear k r s) := by
  have hg : growV k a = (a.map (fun r => (growF k r).1), 0) := by
    unfold growV
    rw [if_pos ⟨h0, h2⟩]
    exact growL_ok (fun r hr => by obtain ⟨s, e, -⟩ := grow_fits h0 h2 (ha r hr); rw [e])
  have hbc : b.all convexB = true := List.all_eq_true.2 hb
  unfold apartV
  rw [hg, if_pos rfl, if_pos hbc]
  refine ⟨rfl, ?_⟩
  simp only [List.all_map, List.all_eq_true, Function.comp]
  constructor
  · intro h r hr s hs
    exact (sep_clear h0 h2 (ha r hr) (hb s hs)).1 (h r hr s hs)
  · intro h r hr s hs
    exact (sep_clear h0 h2 (ha r hr) (hb s hs)).2 (h r hr s hs)
theorem apart_fits {k : Int} {a b : List (List Pt)} (hl : ∀ r ∈ a, r.length ≤ 20) (h : (apartV a b k).2 = 0) : 0 ≤ k ∧ k ≤ 200 ∧ (∀ r ∈ a, Fits k r) ∧ ∀ s ∈ b, convexB s = true := by
  unfold apartV at h
  by_cases h1 : (growV k a).2 = 0
  · rw [if_pos h1] at h
    have hk : 0 ≤ k ∧ k ≤ 200 := by
      unfold growV at h1
      by_cases q : 0 ≤ k ∧ k ≤ 200
      · exact q
      · rw [if_neg q] at h1; cases h1
    have h3 : (growL k a).2 = 0 := by unfold growV at h1; rwa [if_pos hk] at h1
    cases hb : b.all convexB
    · rw [hb] at h; cases h
    · exact ⟨hk.1, hk.2, fun r hr => fits_of hk.1 hk.2 (hl r hr) (growL_all h3 r hr), List.all_eq_true.1 hb⟩
  · rw [if_neg h1] at h
    exact absurd h h1
theorem apart_mono {j k m : Int} (h0 : 0 ≤ j) (hjk : j ≤ k) (hkm : k ≤ m) {a b : List (List Pt)} (hl : ∀ r ∈ a, r.length ≤ 20) (hm : (apartV a b m).2 = 0) (h : (apartV a b k).1 = true) : (apartV a b j).1 = true := by
  obtain ⟨m0, m2, ha, hb⟩ := apart_fits hl hm
  have A := apart_clear (k := k) (by omega) (by omega) (fun r hr => (ha r hr).less hkm) hb
  have B := apart_clear (k := j) h0 (by omega) (fun r hr => (ha r hr).less (Int.le_trans hjk hkm)) hb
  exact B.2.2 (fun r hr s hs => (A.2.1 h r hr s hs).less hjk)
end Go.Proofs.Yticmfmcflikneaa
