/- Layer 18 (plain): the laws of clearances: symmetric, monotone, points, the disc. -/
import Derived.Test.YticmfmcflikneaaOff9
namespace Go.Proofs.Yticmfmcflikneaa
open Go.RowKit Go.Sort
set_option linter.unusedVariables false

theorem least_congr {p q : Nat → Bool} {n : Nat} (h : ∀ i, i < n → p i = q i) : least p n = least q n := by
  obtain ⟨k1, k2, k3⟩ := least_spec q n
  exact least_is k1 (fun i hi => by rw [h i (by omega)]; exact k2 i hi) (fun hlt => by rw [h _ hlt]; exact k3 hlt)
def modR (m : Int) (r : List Pt) : Bool := decide (r.length ≤ 8) && convexB r && r.all (fun p => withinB p.1 p.2 m)
def modB (l : List (List Pt)) : Bool := l.all (modR 2000) && decide (l.length ≤ 3)
/-- What is needed of the lists. -/
def Tame (l : List (List Pt)) : Prop := l.length ≤ 3 ∧ ∀ r ∈ l, convexB r = true ∧ r.length ≤ 8 ∧ ∀ p ∈ r, near 4000 p
theorem modB_tame {l : List (List Pt)} (h : modB l = true) : Tame l ∧ ∀ r ∈ l, ∀ p ∈ r, near 2000 p := by
  unfold modB at h
  rw [Bool.and_eq_true] at h
  have h2 := List.all_eq_true.1 h.1
  have h3 : ∀ r ∈ l, ∀ p ∈ r, near 2000 p := fun r hr p hp => by
    have := h2 r hr
    unfold modR at this
    simp only [Bool.and_eq_true] at this
    exact (near_within (by omega)).1 (List.all_eq_true.1 this.2 p hp)
  refine ⟨⟨by simpa using h.2, fun r hr => ?_⟩, h3⟩
  have := h2 r hr
  unfold modR at this
  simp only [Bool.and_eq_true, decide_eq_true_eq] at this
  exact ⟨this.1.2, this.1.1, fun p hp => by have := h3 r hr p hp; unfold near at *; omega⟩
theorem Tame.fits {l : List (List Pt)} (h : Tame l) {k : Int} (hk : k ≤ 200) : ∀ r ∈ l, Fits k r := fun r hr => by
  obtain ⟨a, b, c⟩ := h.2 r hr
  exact ⟨a, by omega, fun p hp => by have := c p hp; unfold near at *; omega⟩
theorem Tame.conv {l : List (List Pt)} (h : Tame l) : ∀ r ∈ l, convexB r = true := fun r hr => (h.2 r hr).1
theorem Tame.len20 {l : List (List Pt)} (h : Tame l) : ∀ r ∈ l, r.length ≤ 20 := fun r hr => by have := (h.2 r hr).2.1; omega
theorem tame_apart {k : Int} (h0 : 0 ≤ k) (h2 : k ≤ 200) {a b : List (List Pt)} (ha : Tame a) (hb : Tame b) : (apartV a b k).2 = 0 ∧ ((apartV a b k).1 = true ↔ ∀ r ∈ a, ∀ s ∈ b, Clear k r s) :=
  apart_clear h0 h2 (ha.fits h2) hb.conv
theorem apart_symm {k : Int} (h0 : 0 ≤ k) (h2 : k ≤ 200) {a b : List (List Pt)} (ha : Tame a) (hb : Tame b) : apartV a b k = apartV b a k := by
  obtain ⟨a1, a2⟩ := tame_apart h0 h2 ha hb
  obtain ⟨b1, b2⟩ := tame_apart h0 h2 hb ha
  refine Prod.ext ?_ (by rw [a1, b1])
  rw [Bool.eq_iff_iff, a2, b2]
  exact ⟨fun h s hs r hr => (h r hr s hs).symm, fun h r hr s hs => (h s hs r hr).symm⟩
theorem gap_congr {a b c d : List (List Pt)} {m : Int} (h : ∀ k : Int, 0 ≤ k → k ≤ m → apartV a b k = apartV c d k) (hm : 0 ≤ m) : gapV a b m = gapV c d m := by
  have e : least (farP a b) (m.toNat + 1) = least (farP c d) (m.toNat + 1) := least_congr (fun i hi => by
    unfold farP
    rw [h i (by omega) (by omega)])
  unfold gapV
  rw [e, h m hm (Int.le_refl _)]
theorem gap_symm {m : Int} (h0 : 0 ≤ m) (h2 : m ≤ 200) {a b : List (List Pt)} (ha : Tame a) (hb : Tame b) : gapV a b m = gapV b a m :=
  gap_congr (fun k hk hkm => apart_symm hk (by omega) ha hb) h0
theorem gap_spec {m : Int} (h0 : 0 ≤ m) (h2 : m ≤ 200) {a b : List (List Pt)} (ha : Tame a) (hb : Tame b) :
    (gapV a b m = (0, 8) ∧ ∀ j : Int, 0 ≤ j → j ≤ m → (apartV a b j).1 = false) ∨ ∃ g : Int, gapV a b m = (g, 0) ∧ 0 ≤ g ∧ g ≤ m ∧ ∀ j : Int, 0 ≤ j → j ≤ m → (apartV a b j).1 = decide (j ≤ g) := by
  have hm := (tame_apart h0 h2 ha hb).1
  have mono := fun (j k : Int) (hj : 0 ≤ j) (hjk : j ≤ k) (hkm : k ≤ m) => apart_mono hj hjk hkm ha.len20 hm
  obtain ⟨k1, k2, k3⟩ := least_spec (farP a b) (m.toNat + 1)
  have hv : gapV a b m = if least (farP a b) (m.toNat + 1) = 0 then (0, 8) else ((least (farP a b) (m.toNat + 1) : Int) - 1, 0) := by
    unfold gapV
    rw [if_pos ⟨h0, h2⟩, if_pos hm]
  generalize least (farP a b) (m.toNat + 1) = q at *
  by_cases hq : q = 0
  · subst hq
    left
    refine ⟨hv, fun j hj hjm => ?_⟩
    have h3 := k3 (by omega)
    unfold farP at h3
    cases e : (apartV a b j).1
    · rfl
    · have := mono 0 j (by omega) hj hjm e
      have e0 : (apartV a b ((0 : Nat) : Int)).1 = true := this
      rw [e0] at h3
      cases h3
  · right
    rw [if_neg hq] at hv
    refine ⟨(q : Int) - 1, hv, by omega, by omega, fun j hj hjm => ?_⟩
    by_cases hjq : j ≤ (q : Int) - 1
    · rw [decide_eq_true hjq]
      have := k2 j.toNat (by omega)
      unfold farP at this
      rw [show ((j.toNat : Nat) : Int) = j by omega] at this
      simpa using this
    · rw [decide_eq_false hjq]
      have h3 := k3 (by omega)
      unfold farP at h3
      cases e : (apartV a b j).1
      · rfl
      · have := mono q j (by omega) (by omega) hjm e
        rw [this] at h3
        cases h3
theorem sq_le_sq {x y : Int} (h0 : 0 ≤ x) (h : x ≤ y) : x * x ≤ y * y := Int.mul_le_mul h h h0 (by omega)
theorem pos_sq {x : Int} (h : x ≠ 0) : 1 ≤ x * x := by
  rcases Int.lt_or_gt_of_ne h with q | q
  · have := Int.mul_le_mul (show 1 ≤ -x by omega) (show 1 ≤ -x by omega) (by omega) (by omega)
    rw [Int.neg_mul_neg] at this
    omega
  · have := Int.mul_le_mul (show 1 ≤ x by omega) (show 1 ≤ x by omega) (by omega) (by omega)
    omega
theorem sq_pos2 {K L : Int} (h : K ≠ 0 ∨ L ≠ 0) : 1 ≤ K * K + L * L := by
  have a := sq_nonneg K
  have b := sq_nonneg L
  rcases h with h | h
  · have := pos_sq h; omega
  · have := pos_sq h; omega
theorem clear_dist {k : Int} (h0 : 0 ≤ k) {r s : List Pt} (h : Clear k r s) {p q : Pt} (hp : p ∈ r) (hq : q ∈ s) : k * k ≤ (p.1 - q.1) * (p.1 - q.1) + (p.2 - q.2) * (p.2 - q.2) := by
  obtain ⟨K, L, hKL, h⟩ := h
  have h1 := h p hp q hq
  have hM := octM_nonneg h0 K L
  have hd := octM_disc h0 K L
  have hs := sq_le_sq hM (show octM k K L ≤ lin K L q - lin K L p by omega)
  have hc := cauchy (K, L) (q.1 - p.1, q.2 - p.2)
  simp only at hc
  have e : lin K L q - lin K L p = K * (q.1 - p.1) + L * (q.2 - p.2) := by unfold lin; grind
  rw [e] at hs
  have e2 : (q.1 - p.1) * (q.1 - p.1) + (q.2 - p.2) * (q.2 - p.2) = (p.1 - q.1) * (p.1 - q.1) + (p.2 - q.2) * (p.2 - q.2) := by grind
  rw [e2] at hc
  have hp := sq_pos2 hKL
  rcases Int.lt_or_le ((p.1 - q.1) * (p.1 - q.1) + (p.2 - q.2) * (p.2 - q.2)) (k * k) with hlt | hge
  · have := Int.mul_lt_mul_of_pos_right hlt (show 0 < K * K + L * L by omega)
    omega
  · exact hge
theorem clear_out {k : Int} (h0 : 0 ≤ k) {r s : List Pt} (hs : convexB s = true) (h : Clear k r s) {p : Pt} (hp : p ∈ r) : whereV s p ≠ 2 := by
  intro e
  obtain ⟨s3, -, -, sc⟩ := convexB_iff.1 hs
  obtain ⟨K, L, hKL, h⟩ := h
  obtain ⟨v, hv, hlt⟩ := inside_less (sc.self s3) hKL ((where_in hs p).1 e).2
  have := h p hp v hv
  have := octM_nonneg h0 K L
  omega
/-- An edge of the octagon. -/
theorem oct_edge {k : Int} (h1 : 1 ≤ k) {o : List Pt} (hy : HullY (octP k (octH k)) o) {i : Nat} (hi : i < o.length) :
    ∃ K L : Int, (K ≠ 0 ∨ L ≠ 0) ∧ K = (rv o (i + 1)).2 - (at0 o i).2 ∧ L = -((rv o (i + 1)).1 - (at0 o i).1) ∧ (at0 o i).1 * (rv o (i + 1)).2 - (at0 o i).2 * (rv o (i + 1)).1 = octM k K L ∧ ∀ v, det (at0 o i) (rv o (i + 1)) v = octM k K L - lin K L v := by
  have hne := hy.hull.next_ne hi
  have hl := hy.hull.left i hi
  have hp := hy.hull.sub _ (at0_mem hi)
  generalize at0 o i = p at *
  generalize rv o (i + 1) = q at *
  have hf : ∀ v, det p q v = lin (q.2 - p.2) (-(q.1 - p.1)) p - lin (q.2 - p.2) (-(q.1 - p.1)) v := fun v => by unfold det lin; grind
  obtain ⟨w, hw, ew⟩ := octM_at (k := k) (by omega) (q.2 - p.2) (-(q.1 - p.1))
  have hle := octM_le (k := k) (by omega) (q.2 - p.2) (-(q.1 - p.1)) p hp
  have h2 := hl w hw
  rw [hf w] at h2
  have hM : octM k (q.2 - p.2) (-(q.1 - p.1)) = lin (q.2 - p.2) (-(q.1 - p.1)) p := by omega
  refine ⟨_, _, ?_, rfl, rfl, ?_, fun v => by rw [hM]; exact hf v⟩
  · by_cases a : q.2 - p.2 = 0
    · right
      intro b
      exact hne (Prod.ext (by omega) (by omega))
    · exact .inl a
  · rw [hM]; unfold lin; grind
theorem oct_near {k : Int} (h0 : 0 ≤ k) : ∀ p ∈ octS k, near k p := fun p hp => by
  have hh := octH_le h0
  have hn := octH_nonneg h0
  unfold octS octP at hp
  simp only [List.mem_cons, List.not_mem_nil, or_false] at hp
  unfold near
  rcases hp with rfl | rfl | rfl | rfl | rfl | rfl | rfl | rfl <;> simp only <;> omega
theorem disc_edge {k : Int} (h1 : 1 ≤ k) (h2 : k ≤ 200) {i : Nat} (hi : i < (octF k).length) :
    near k (at0 (octF k) i) ∧ near k (rv (octF k) (i + 1)) ∧ 0 < (at0 (octF k) i).1 * (rv (octF k) (i + 1)).2 - (at0 (octF k) i).2 * (rv (octF k) (i + 1)).1 ∧
    ∀ c, c = (at0 (octF k) i).1 * (rv (octF k) (i + 1)).2 - (at0 (octF k) i).2 * (rv (octF k) (i + 1)).1 → k * k * (((rv (octF k) (i + 1)).1 - (at0 (octF k) i).1) * ((rv (octF k) (i + 1)).1 - (at0 (octF k) i).1) + ((rv (octF k) (i + 1)).2 - (at0 (octF k) i).2) * ((rv (octF k) (i + 1)).2 - (at0 (octF k) i).2)) ≤ c * c := by
  rcases octF_res h1 h2 with ⟨h, -⟩ | ⟨-, -, -, hy, hl8⟩
  · omega
  · obtain ⟨K, L, hKL, eK, eL, ec, -⟩ := oct_edge h1 hy hi
    have hd := octM_disc (k := k) (by omega) K L
    have hp := sq_pos2 hKL
    have hM := octM_nonneg (k := k) (by omega) K L
    have hk1 := sq_le_sq (show (0 : Int) ≤ 1 by omega) h1
    refine ⟨oct_near (by omega) _ (hy.hull.sub _ (at0_mem hi)), oct_near (by omega) _ (hy.hull.sub _ (at0_mem (Nat.mod_lt _ (by omega)))), ?_, ?_⟩
    · rw [ec]
      rcases Int.lt_or_eq_of_le hM with q | q
      · exact q
      · exfalso
        rw [← q] at hd
        have := Int.mul_le_mul hk1 hp (by omega) (by omega)
        omega
    · rintro c rfl
      rw [ec]
      have e : ((rv (octF k) (i + 1)).1 - (at0 (octF k) i).1) * ((rv (octF k) (i + 1)).1 - (at0 (octF k) i).1) + ((rv (octF k) (i + 1)).2 - (at0 (octF k) i).2) * ((rv (octF k) (i + 1)).2 - (at0 (octF k) i).2) = K * K + L * L := by
        rw [eK, eL]; grind
      rw [e]
      exact hd
theorem octF_conv {k : Int} (h1 : 1 ≤ k) (h2 : k ≤ 200) : convexB (octF k) = true ∧ (octF k).length ≤ 8 := by
  rcases octF_res h1 h2 with ⟨h, -⟩ | ⟨-, -, -, hy, hl8⟩
  · omega
  · have hf : (octP k (octH k)).any farB = false := far_any.2 (fun p hp => by have := oct_near (k := k) (by omega) p hp; unfold near at *; omega)
    exact ⟨hull_convexB hf hy.hull (by omega), hl8⟩
theorem octF_less {j k : Int} (h1 : 1 ≤ j) (hjk : j ≤ k) (h2 : k ≤ 200) {v : Pt} (hv : v ∈ octF j) : whereV (octF k) v ≠ 0 := by
  rcases octF_res (k := k) (by omega) h2 with ⟨h, -⟩ | ⟨-, -, -, hy, hl8⟩
  · omega
  · rcases octF_res (k := j) (by omega) (by omega) with ⟨h, -⟩ | ⟨-, -, -, hyj, -⟩
    · omega
    · have hvS := hyj.hull.sub _ hv
      have hn := oct_near (k := j) (by omega) v hvS
      refine (where_out (octF_conv (by omega) h2).1 v).2 ⟨near_far.2 (by unfold near at *; omega), fun i hi => ?_⟩
      obtain ⟨K, L, -, -, -, -, ef⟩ := oct_edge (k := k) (by omega) hy hi
      rw [ef]
      have a := octM_mono hjk K L
      have b := octM_le (k := j) (by omega) K L v hvS
      omega
theorem corner_in {j : Int} (h1 : 1 ≤ j) {o : List Pt} (hy : HullY (octP j (octH j)) o) (a b : Int) (ha : a = 1 ∨ a = -1) (hb : b = 1 ∨ b = -1) : (a * j, b * octH j) ∈ o := by
  have hh := octH_le (k := j) (by omega)
  have hn : 1 ≤ octH j := by unfold octH; omega
  obtain ⟨i, hi, hm⟩ := hy.hull.least (-2 * a) (-b)
  have hv := hy.hull.sub _ (at0_mem hi)
  have h2 := hm (a * j, b * octH j) (by
    unfold octP
    rcases ha with rfl | rfl <;> rcases hb with rfl | rfl <;> simp)
  have e : at0 o i = (a * j, b * octH j) := by
    generalize at0 o i = v at *
    generalize octH j = h at *
    unfold lin at h2
    unfold octP at hv
    simp only [List.mem_cons, List.not_mem_nil, or_false] at hv
    rcases ha with rfl | rfl <;> rcases hb with rfl | rfl <;> rcases hv with rfl | rfl | rfl | rfl | rfl | rfl | rfl | rfl <;> simp only at h2 <;> refine Prod.ext ?_ ?_ <;> simp only <;> omega
  rw [← e]
  exact at0_mem hi
theorem octF_four {j : Int} (h1 : 1 ≤ j) (h2 : j ≤ 200) : 4 ≤ (octF j).length := by
  rcases octF_res h1 h2 with ⟨h, -⟩ | ⟨-, -, -, hy, -⟩
  · omega
  · have hn : 1 ≤ octH j := by unfold octH; omega
    refine nodup_le (l := [(1 * j, 1 * octH j), (1 * j, -1 * octH j), (-1 * j, 1 * octH j), (-1 * j, -1 * octH j)]) ?_ ?_
    · simp only [List.nodup_cons, List.mem_cons, List.not_mem_nil, or_false, Prod.mk.injEq, not_or, not_and, List.nodup_nil, not_false_eq_true, and_true]
      omega
    · intro p hp
      simp only [List.mem_cons, List.not_mem_nil, or_false] at hp
      rcases hp with rfl | rfl | rfl | rfl
      · exact corner_in h1 hy 1 1 (.inl rfl) (.inl rfl)
      · exact corner_in h1 hy 1 (-1) (.inl rfl) (.inr rfl)
      · exact corner_in h1 hy (-1) 1 (.inr rfl) (.inl rfl)
      · exact corner_in h1 hy (-1) (-1) (.inr rfl) (.inr rfl)
end Go.Proofs.Yticmfmcflikneaa
