/- Layer 15: points of the sum; the walk of MinkowskiPoints. -/
import Derived.Test.YtbienlhofkfdpaaMinkL1
import Derived.Test.YtbienlhofkfdpaaMink7
import Derived.Test.YtbienlhofkfdpaaMinkP4
namespace Go.Proofs.Ytbienlhofkfdpaa
open Go.RowKit Go.Sort
set_option linter.unusedVariables false
set_option linter.unusedSimpArgs false
attribute [local go_sem ↓] Go.wp_at_zero Go.wp_at_succ

theorem where_in {r : List Pt} {p : Pt} (h : whereM r p ≠ 0) : validB r = true ∧ near 8000 p ∧ ∀ i, i < r.length → 0 ≤ det (at0 r i) (rv r (i + 1)) p := by
  unfold whereM at h
  cases hv : validB r
  · rw [hv] at h; simp at h
  · cases hi : inV p
    · rw [hi] at h; simp at h
    · rw [hv, hi] at h
      have hC := validB_iff.1 hv
      exact ⟨rfl, inV_near.1 hi, (place_out (by omega) hC.2.2.1 (inV_near.1 hi)).1 h⟩
theorem where_two {r : List Pt} {p : Pt} (hv : validB r = true) (hp : near 8000 p) : whereM r p = 2 ↔ ∀ i, i < r.length → 0 < det (at0 r i) (rv r (i + 1)) p := by
  unfold whereM
  have hC := validB_iff.1 hv
  rw [hv, inV_near.2 hp]
  exact place_in (by omega) hC.2.2.1 hp
theorem where_not {r : List Pt} {p : Pt} (hv : validB r = true) (hp : near 8000 p) : whereM r p ≠ 0 ↔ ∀ i, i < r.length → 0 ≤ det (at0 r i) (rv r (i + 1)) p := by
  unfold whereM
  have hC := validB_iff.1 hv
  rw [hv, inV_near.2 hp]
  exact place_out (by omega) hC.2.2.1 hp
theorem lin_add (K L : Int) (p q : Pt) : lin K L (addP p q) = lin K L p + lin K L q := by unfold lin addP; grind
/-- A point of a convex ring is not lower than its lowest vertex. -/
theorem low_in {r : List Pt} (hC : Conv15 r) {p : Pt} (hp : ∀ i, i < r.length → 0 ≤ det (at0 r i) (rv r (i + 1)) p) (K L : Int) : ∃ v ∈ r, lin K L v ≤ lin K L p ∧ ((K ≠ 0 ∨ L ≠ 0) → (∀ i, i < r.length → 0 < det (at0 r i) (rv r (i + 1)) p) → lin K L v < lin K L p) := by
  have H0 := hC.2.2.2.self hC.1
  have H : IsHull (p :: r) r := ⟨H0.three, H0.convex, fun i hi q hq => by
    rcases List.mem_cons.1 hq with rfl | hq
    · exact hp i hi
    · exact H0.left i hi q hq, fun q hq => List.mem_cons_of_mem _ hq⟩
  obtain ⟨i, hi, hm⟩ := H.least K L
  refine ⟨at0 r i, at0_mem hi, hm p (List.mem_cons_self ..), fun hKL hs => ?_⟩
  obtain ⟨v, hv, hl⟩ := inside_less H0 hKL hs
  have := hm v (List.mem_cons_of_mem _ hv)
  omega
theorem edge_form {u : List Pt} (hu : ConvexI u) (h3 : 3 ≤ u.length) {i : Nat} (hi : i < u.length) : ∃ K L c : Int, (K ≠ 0 ∨ L ≠ 0) ∧ ∀ q, det (at0 u i) (rv u (i + 1)) q = lin K L q + c := by
  have hne := (hu.self h3).next_ne hi
  refine ⟨-((rv u (i + 1)).2 - (at0 u i).2), (rv u (i + 1)).1 - (at0 u i).1, (rv u (i + 1)).2 * (at0 u i).1 - (at0 u i).2 * (at0 u i).1 - ((rv u (i + 1)).1 * (at0 u i).2 - (at0 u i).1 * (at0 u i).2), ?_, fun q => ?_⟩
  · by_cases h : -((rv u (i + 1)).2 - (at0 u i).2) = 0
    · right
      intro h2
      exact hne (Prod.ext (by omega) (by omega))
    · exact .inl h
  · unfold det lin; grind
theorem where_sum {r s u : List Pt} (H : HullY (sums2 r s) u) (hu : Conv15 u) {p q : Pt} (hp : whereM r p ≠ 0) (hq : whereM s q ≠ 0) : near 8000 (addP p q) ∧ whereM u (addP p q) ≠ 0 ∧ (whereM r p = 2 ∨ whereM s q = 2 → whereM u (addP p q) = 2) := by
  obtain ⟨v1, n1, d1⟩ := where_in hp
  obtain ⟨v2, n2, d2⟩ := where_in hq
  have C1 := validB_iff.1 v1
  have C2 := validB_iff.1 v2
  have key := fun (K L : Int) => (by
    obtain ⟨a, ha, la, sa⟩ := low_in C1 d1 K L
    obtain ⟨b, hb, lb, sb⟩ := low_in C2 d2 K L
    exact ⟨addP a b, mem_sums2.2 ⟨a, ha, b, hb, rfl⟩, by rw [lin_add, lin_add]; omega, fun hKL hs => by
      rw [lin_add, lin_add]
      rcases hs with hs | hs
      · have := sa hKL ((where_two v1 n1).1 hs); omega
      · have := sb hKL ((where_two v2 n2).1 hs); omega⟩ : ∃ x ∈ sums2 r s, lin K L x ≤ lin K L (addP p q) ∧ ((K ≠ 0 ∨ L ≠ 0) → (whereM r p = 2 ∨ whereM s q = 2) → lin K L x < lin K L (addP p q)))
  have box := fun (K L : Int) (hb : ∀ x ∈ u, -8000 ≤ lin K L x) => (by
    obtain ⟨x, hx, hl, _⟩ := key K L
    obtain ⟨i, hi, hm⟩ := H.hull.least K L
    have := hm x hx
    have := hb _ (at0_mem hi)
    omega : -8000 ≤ lin K L (addP p q))
  have e : ∀ x ∈ u, near 8000 x := hu.2.2.1
  have b1 := box 1 0 (fun x hx => by have := e x hx; unfold near at this; unfold lin; omega)
  have b2 := box (-1) 0 (fun x hx => by have := e x hx; unfold near at this; unfold lin; omega)
  have b3 := box 0 1 (fun x hx => by have := e x hx; unfold near at this; unfold lin; omega)
  have b4 := box 0 (-1) (fun x hx => by have := e x hx; unfold near at this; unfold lin; omega)
  have nn : near 8000 (addP p q) := by unfold lin at *; unfold near; omega
  have vu := validB_iff.2 hu
  refine ⟨nn, (where_not vu nn).2 fun i hi => ?_, fun h2 => (where_two vu nn).2 fun i hi => ?_⟩
  · obtain ⟨K, L, c, hKL, hf⟩ := edge_form hu.2.2.2 hu.1 hi
    obtain ⟨x, hx, hl, _⟩ := key K L
    have := H.hull.left i hi x hx
    rw [hf] at this ⊢
    omega
  · obtain ⟨K, L, c, hKL, hf⟩ := edge_form hu.2.2.2 hu.1 hi
    obtain ⟨x, hx, _, hs⟩ := key K L
    have := H.hull.left i hi x hx
    have := hs hKL h2
    rw [hf] at *
    omega
set_option maxRecDepth 100000 in
set_option maxHeartbeats 8000000 in
theorem minkowskiPoints_any (A B : Option Addr) (c d : Nat) (r s : List (Int × Int)) (px py qx qy : Int) (w : World) (h : IsVecs w A c r) (h2 : IsVecs w B d s) (hc : r.length ≤ c) (hd : s.length ≤ d) (hl1 : r.length < 4611686018427387904) (hl2 : s.length < 4611686018427387904) : Yields Try.prog 6 #[.slice A r.length c, .slice B s.length d, .agg #[.int .i64 px, .int .i64 py, .int .i64 qx, .int .i64 qy]] w (.bool true) := by
  apply Yields.ret
  have F1 := few15_any A r.length c
  have F2 := few15_any B s.length d
  have SU := fun W (hW : SinceOf w W) => sum_any A B c d r s W (h.of hW) (h2.of hW) hc hd hl1 hl2
  have V1 := fun W (hW : SinceOf w W) => refValid_any A c r W (h.of hW) hl1
  have V2 := fun W (hW : SinceOf w W) => refValid_any B d s W (h2.of hW) hl2
  have H := Lib.hid (And.intro h h2)
  clear h h2
  by_cases f1 : r.length ≤ 20
  case neg =>
    rw [decide_eq_false f1] at F1
    clear f1 SU V1 V2
    go_enter Try.func6, Try.ntmps6
    go_wp2_with fail
    refine (awake15_any _).mono ?_
    rintro e _ ⟨rfl, x1, rfl⟩
    go_wp2_with fail
    refine (F1 _).calls.mono ?_
    rintro e _ ⟨rfl, x2, rfl⟩
    go_wp2_with fail
    go_returns
    exact ⟨rfl, by (repeat (first | (with_reducible exact SinceOf.refl _) | (with_reducible assumption) | (with_reducible refine SinceOf.alloc ?_ _) | (with_reducible refine SinceOf.drew ?_) | (with_reducible refine SinceOf.drewN ?_ _) | (with_reducible refine SinceOf.later ?_ _) | (with_reducible refine SinceOf.further ?_ _) | (with_reducible refine SinceOf.setCell ?_ (by first | exact Nat.le_refl _ | (simp; done) | omega | (simp; omega)) _)))⟩
  rw [decide_eq_true f1] at F1
  by_cases f2 : s.length ≤ 20
  case neg =>
    rw [decide_eq_false f2] at F2
    clear f1 f2 SU V1 V2
    go_enter Try.func6, Try.ntmps6
    go_wp2_with fail
    refine (awake15_any _).mono ?_
    rintro e _ ⟨rfl, x1, rfl⟩
    go_wp2_with fail
    refine (F1 _).calls.mono ?_
    rintro e _ ⟨rfl, x2, rfl⟩
    go_wp2_with fail
    refine (F2 _).calls.mono ?_
    rintro e _ ⟨rfl, x3, rfl⟩
    go_wp2_with fail
    go_returns
    exact ⟨rfl, by (repeat (first | (with_reducible exact SinceOf.refl _) | (with_reducible assumption) | (with_reducible refine SinceOf.alloc ?_ _) | (with_reducible refine SinceOf.drew ?_) | (with_reducible refine SinceOf.drewN ?_ _) | (with_reducible refine SinceOf.later ?_ _) | (with_reducible refine SinceOf.further ?_ _) | (with_reducible refine SinceOf.setCell ?_ (by first | exact Nat.le_refl _ | (simp; done) | omega | (simp; omega)) _)))⟩
  rw [decide_eq_true f2] at F2
  cases hv1 : validB r
  · rw [hv1] at V1
    clear f1 f2 SU V2 hv1
    go_enter Try.func6, Try.ntmps6
    go_wp2_with fail
    refine (awake15_any _).mono ?_
    rintro e _ ⟨rfl, x1, rfl⟩
    go_wp2_with fail
    refine (F1 _).calls.mono ?_
    rintro e _ ⟨rfl, x2, rfl⟩
    go_wp2_with fail
    refine (F2 _).calls.mono ?_
    rintro e _ ⟨rfl, x3, rfl⟩
    go_wp2_with fail
    refine (V1 _ (by (repeat (first | (with_reducible exact SinceOf.refl _) | (with_reducible assumption) | (with_reducible refine SinceOf.alloc ?_ _) | (with_reducible refine SinceOf.drew ?_) | (with_reducible refine SinceOf.drewN ?_ _) | (with_reducible refine SinceOf.later ?_ _) | (with_reducible refine SinceOf.further ?_ _) | (with_reducible refine SinceOf.setCell ?_ (by first | exact Nat.le_refl _ | (simp; done) | omega | (simp; omega)) _))))).calls.mono ?_
    rintro e _ ⟨rfl, x4, rfl⟩
    go_wp2_with fail
    go_returns
    exact ⟨rfl, by (repeat (first | (with_reducible exact SinceOf.refl _) | (with_reducible assumption) | (with_reducible refine SinceOf.alloc ?_ _) | (with_reducible refine SinceOf.drew ?_) | (with_reducible refine SinceOf.drewN ?_ _) | (with_reducible refine SinceOf.later ?_ _) | (with_reducible refine SinceOf.further ?_ _) | (with_reducible refine SinceOf.setCell ?_ (by first | exact Nat.le_refl _ | (simp; done) | omega | (simp; omega)) _)))⟩
  cases hv2 : validB s
  · rw [hv1] at V1
    rw [hv2] at V2
    clear f1 f2 SU hv1 hv2
    go_enter Try.func6, Try.ntmps6
    go_wp2_with fail
    refine (awake15_any _).mono ?_
    rintro e _ ⟨rfl, x1, rfl⟩
    go_wp2_with fail
    refine (F1 _).calls.mono ?_
    rintro e _ ⟨rfl, x2, rfl⟩
    go_wp2_with fail
    refine (F2 _).calls.mono ?_
    rintro e _ ⟨rfl, x3, rfl⟩
    go_wp2_with fail
    refine (V1 _ (by (repeat (first | (with_reducible exact SinceOf.refl _) | (with_reducible assumption) | (with_reducible refine SinceOf.alloc ?_ _) | (with_reducible refine SinceOf.drew ?_) | (with_reducible refine SinceOf.drewN ?_ _) | (with_reducible refine SinceOf.later ?_ _) | (with_reducible refine SinceOf.further ?_ _) | (with_reducible refine SinceOf.setCell ?_ (by first | exact Nat.le_refl _ | (simp; done) | omega | (simp; omega)) _))))).calls.mono ?_
    rintro e _ ⟨rfl, x4, rfl⟩
    go_wp2_with fail
    refine (V2 _ (by (repeat (first | (with_reducible exact SinceOf.refl _) | (with_reducible assumption) | (with_reducible refine SinceOf.alloc ?_ _) | (with_reducible refine SinceOf.drew ?_) | (with_reducible refine SinceOf.drewN ?_ _) | (with_reducible refine SinceOf.later ?_ _) | (with_reducible refine SinceOf.further ?_ _) | (with_reducible refine SinceOf.setCell ?_ (by first | exact Nat.le_refl _ | (simp; done) | omega | (simp; omega)) _))))).calls.mono ?_
    rintro e _ ⟨rfl, x5, rfl⟩
    go_wp2_with fail
    go_returns
    exact ⟨rfl, by (repeat (first | (with_reducible exact SinceOf.refl _) | (with_reducible assumption) | (with_reducible refine SinceOf.alloc ?_ _) | (with_reducible refine SinceOf.drew ?_) | (with_reducible refine SinceOf.drewN ?_ _) | (with_reducible refine SinceOf.later ?_ _) | (with_reducible refine SinceOf.further ?_ _) | (with_reducible refine SinceOf.setCell ?_ (by first | exact Nat.le_refl _ | (simp; done) | omega | (simp; omega)) _)))⟩
  have W1 := fun W (hW : SinceOf w W) => where_any A c r px py W (H.out.1.of hW) (by omega)
  have W2 := fun W (hW : SinceOf w W) => where_any B d s qx qy W (H.out.2.of hW) (by omega)
  rw [hv1] at V1
  rw [hv2] at V2
  have HVV := Lib.hid (And.intro hv1 hv2)
  clear f1 f2 hv1 hv2
  go_enter Try.func6, Try.ntmps6
  go_wp2_with fail
  refine (awake15_any _).mono ?_
  rintro e _ ⟨rfl, x1, rfl⟩
  go_wp2_with fail
  refine (F1 _).calls.mono ?_
  rintro e _ ⟨rfl, x2, rfl⟩
  go_wp2_with fail
  refine (F2 _).calls.mono ?_
  rintro e _ ⟨rfl, x3, rfl⟩
  go_wp2_with fail
  refine (V1 _ (by (repeat (first | (with_reducible exact SinceOf.refl _) | (with_reducible assumption) | (with_reducible refine SinceOf.alloc ?_ _) | (with_reducible refine SinceOf.drew ?_) | (with_reducible refine SinceOf.drewN ?_ _) | (with_reducible refine SinceOf.later ?_ _) | (with_reducible refine SinceOf.further ?_ _) | (with_reducible refine SinceOf.setCell ?_ (by first | exact Nat.le_refl _ | (simp; done) | omega | (simp; omega)) _))))).calls.mono ?_
  rintro e _ ⟨rfl, x4, rfl⟩
  go_wp2_with fail
  refine (V2 _ (by (repeat (first | (with_reducible exact SinceOf.refl _) | (with_reducible assumption) | (with_reducible refine SinceOf.alloc ?_ _) | (with_reducible refine SinceOf.drew ?_) | (with_reducible refine SinceOf.drewN ?_ _) | (with_reducible refine SinceOf.later ?_ _) | (with_reducible refine SinceOf.further ?_ _) | (with_reducible refine SinceOf.setCell ?_ (by first | exact Nat.le_refl _ | (simp; done) | omega | (simp; omega)) _))))).calls.mono ?_
  rintro e _ ⟨rfl, x5, rfl⟩
  clear F1 F2 V1 V2
  go_wp2_with fail
  refine (SU _ (by (repeat (first | (with_reducible exact SinceOf.refl _) | (with_reducible assumption) | (with_reducible refine SinceOf.alloc ?_ _) | (with_reducible refine SinceOf.drew ?_) | (with_reducible refine SinceOf.drewN ?_ _) | (with_reducible refine SinceOf.later ?_ _) | (with_reducible refine SinceOf.further ?_ _) | (with_reducible refine SinceOf.setCell ?_ (by first | exact Nat.le_refl _ | (simp; done) | omega | (simp; omega)) _))))).mono ?_
  rintro e _ ⟨A1, c1, out, rfl, hs1, hu1, hc1, -, ⟨x6, rfl⟩⟩
  have HS := Lib.hid (And.intro hs1 hu1)
  clear hs1 hu1 SU
  obtain ⟨l, hl⟩ : ∃ l, l = out.1 := ⟨_, rfl⟩
  obtain ⟨er, her⟩ : ∃ er, er = out.2 := ⟨_, rfl⟩
  rw [← hl, ← her]
  have HLE := Lib.hid (And.intro hl her)
  rw [← hl] at hc1
  clear hl her
  obtain ⟨tv, htv⟩ : ∃ t, t = whereM r (px, py) := ⟨_, rfl⟩
  obtain ⟨tw, htw⟩ : ∃ t, t = whereM s (qx, qy) := ⟨_, rfl⟩
  rw [← htv] at W1
  rw [← htw] at W2
  have HT := Lib.hid (And.intro htv htw)
  clear htv htw
  have q0 : x6.wd.cell? ⟨w.heap.size, 0, none⟩ = some (.int .i64 px) := by simp [go_sem]
  have q1 : x6.wd.cell? ⟨w.heap.size, 1, none⟩ = some (.int .i64 py) := by simp [go_sem]
  have q2 : x6.wd.cell? ⟨w.heap.size, 2, none⟩ = some (.int .i64 qx) := by simp [go_sem]
  have q3 : x6.wd.cell? ⟨w.heap.size, 3, none⟩ = some (.int .i64 qy) := by simp [go_sem]
  have hO6 : Nonempty (Old x6.wd w.heap.size) := inferInstance
  obtain ⟨v, hv⟩ : SinceOf w x6.wd := by (repeat (first | (with_reducible exact SinceOf.refl _) | (with_reducible assumption) | (with_reducible refine SinceOf.alloc ?_ _) | (with_reducible refine SinceOf.drew ?_) | (with_reducible refine SinceOf.drewN ?_ _) | (with_reducible refine SinceOf.later ?_ _) | (with_reducible refine SinceOf.further ?_ _) | (with_reducible refine SinceOf.setCell ?_ (by first | exact Nat.le_refl _ | (simp; done) | omega | (simp; omega)) _)))
  rw [hv] at q0 q1 q2 q3 hO6 HS ⊢
  clear hv x6 x5 x4 x3 x2 x1
  go_upto_region 6 with fail
  go_cut [9, 10] (fun s9 s10 wx => s9 = .int .i64 tv ∧ s10 = .int .i64 tw ∧ SinceOf v.wd wx)
  case first =>
    go_region_held3 (fun w' => w'.cell? ⟨w.heap.size, 0, none⟩ = some (.int .i64 px) ∧ w'.cell? ⟨w.heap.size, 1, none⟩ = some (.int .i64 py) ∧ w'.cell? ⟨w.heap.size, 2, none⟩ = some (.int .i64 qx) ∧ w'.cell? ⟨w.heap.size, 3, none⟩ = some (.int .i64 qy)) ((simp [go_sem, *]))
      (first
        | (go_at_call 26; (with_reducible refine (W1 _ (by (repeat (first | (with_reducible exact SinceOf.refl _) | (with_reducible assumption) | (with_reducible refine SinceOf.alloc ?_ _) | (with_reducible refine SinceOf.drew ?_) | (with_reducible refine SinceOf.drewN ?_ _) | (with_reducible refine SinceOf.later ?_ _) | (with_reducible refine SinceOf.further ?_ _) | (with_reducible refine SinceOf.setCell ?_ (by first | exact Nat.le_refl _ | (simp; done) | omega | (simp; omega)) _))))).calls.mono ?_); rintro e _ ⟨rfl, y1, rfl⟩)
        | (go_at_call 26; (with_reducible refine (W2 _ (by (repeat (first | (with_reducible exact SinceOf.refl _) | (with_reducible assumption) | (with_reducible refine SinceOf.alloc ?_ _) | (with_reducible refine SinceOf.drew ?_) | (with_reducible refine SinceOf.drewN ?_ _) | (with_reducible refine SinceOf.later ?_ _) | (with_reducible refine SinceOf.further ?_ _) | (with_reducible refine SinceOf.setCell ?_ (by first | exact Nat.le_refl _ | (simp; done) | omega | (simp; omega)) _))))).calls.mono ?_); rintro e _ ⟨rfl, y2, rfl⟩))
    all_goals
      go_wp2_with fail
      go_meet
      exact ⟨by first | rfl | simp, by first | rfl | simp, by (repeat (first | (with_reducible exact SinceOf.refl _) | (with_reducible assumption) | (with_reducible refine SinceOf.alloc ?_ _) | (with_reducible refine SinceOf.drew ?_) | (with_reducible refine SinceOf.drewN ?_ _) | (with_reducible refine SinceOf.later ?_ _) | (with_reducible refine SinceOf.further ?_ _) | (with_reducible refine SinceOf.setCell ?_ (by first | exact Nat.le_refl _ | (simp; done) | omega | (simp; omega)) _)))⟩
  case rest =>
    obtain ⟨rfl, rfl, ⟨z, rfl⟩⟩ := hcut
    clear W1 W2
    by_cases h0 : er = 0
    case neg =>
      have g0 : (er != 0) = true := by simpa using h0
      clear h0
      go_wp2_with fail
      go_returns
      exact ⟨rfl, by (repeat (first | (with_reducible exact SinceOf.refl _) | (with_reducible assumption) | (with_reducible refine SinceOf.alloc ?_ _) | (with_reducible refine SinceOf.drew ?_) | (with_reducible refine SinceOf.drewN ?_ _) | (with_reducible refine SinceOf.later ?_ _) | (with_reducible refine SinceOf.further ?_ _) | (with_reducible refine SinceOf.setCell ?_ (by first | exact Nat.le_refl _ | (simp; done) | omega | (simp; omega)) _)))⟩
    have g0 : (er != 0) = false := by simp [h0]
    by_cases h1 : tv = 0
    · have g1 : (tv == 0) = true := by simp [h1]
      clear h0 h1
      go_wp2_with fail
      go_returns
      exact ⟨rfl, by (repeat (first | (with_reducible exact SinceOf.refl _) | (with_reducible assumption) | (with_reducible refine SinceOf.alloc ?_ _) | (with_reducible refine SinceOf.drew ?_) | (with_reducible refine SinceOf.drewN ?_ _) | (with_reducible refine SinceOf.later ?_ _) | (with_reducible refine SinceOf.further ?_ _) | (with_reducible refine SinceOf.setCell ?_ (by first | exact Nat.le_refl _ | (simp; done) | omega | (simp; omega)) _)))⟩
    have g1 : (tv == 0) = false := by simpa using h1
    by_cases h2 : tw = 0
    · have g2 : (tw == 0) = true := by simp [h2]
      clear h0 h1 h2
      go_wp2_with fail
      go_returns
      exact ⟨rfl, by (repeat (first | (with_reducible exact SinceOf.refl _) | (with_reducible assumption) | (with_reducible refine SinceOf.alloc ?_ _) | (with_reducible refine SinceOf.drew ?_) | (with_reducible refine SinceOf.drewN ?_ _) | (with_reducible refine SinceOf.later ?_ _) | (with_reducible refine SinceOf.further ?_ _) | (with_reducible refine SinceOf.setCell ?_ (by first | exact Nat.le_refl _ | (simp; done) | omega | (simp; omega)) _)))⟩
    have g2 : (tw == 0) = false := by simpa using h2
    have ok := HS.out.1.ok (by rw [← HLE.out.2]; exact h0)
    rw [← HLE.out.1] at ok
    have hu := HS.out.2
    rw [← HLE.out.1] at hu
    rw [HT.out.1] at h1
    rw [HT.out.2] at h2
    have ws := where_sum ok.2.1 ok.1.1 h1 h2
    rw [← HT.out.1, ← HT.out.2] at ws
    obtain ⟨_, n1, _⟩ := where_in h1
    obtain ⟨_, n2, _⟩ := where_in h2
    have ex : (wadd px qx, wadd py qy) = addP (px, py) (qx, qy) := by
      unfold near at n1 n2
      rw [wadd_near (n := 1) (by omega) (by omega) (by omega), wadd_near (n := 1) (by omega) (by omega) (by omega)]
      rfl
    have AD := refAdd_any px py qx qy
    have W3 := fun W (hW : SinceOf v.wd W) => where_any A1 c1 l (wadd px qx) (wadd py qy) W (hu.of hW) (by have := ok.1.1.2.1; omega)
    rw [ex] at W3
    generalize wadd px qx = ax at *
    generalize wadd py qy = ay at *
    obtain ⟨t, ht⟩ : ∃ t, t = whereM l (addP (px, py) (qx, qy)) := ⟨_, rfl⟩
    rw [← ht] at W3 ws
    clear ht ok hu n1 n2 ex h0 h1 h2 HS
    have q0 : z.wd.cell? ⟨w.heap.size, 0, none⟩ = some (.int .i64 px) := by rw [Since.cell]; exact q0
    have q1 : z.wd.cell? ⟨w.heap.size, 1, none⟩ = some (.int .i64 py) := by rw [Since.cell]; exact q1
    have q2 : z.wd.cell? ⟨w.heap.size, 2, none⟩ = some (.int .i64 qx) := by rw [Since.cell]; exact q2
    have q3 : z.wd.cell? ⟨w.heap.size, 3, none⟩ = some (.int .i64 qy) := by rw [Since.cell]; exact q3
    have hOz : Nonempty (Old z.wd w.heap.size) := inferInstance
    have k0 : (t != 0) = true := by simpa using ws.2.1
    by_cases t2 : t = 2
    · have k1 : (t == 2) = true := by simp [t2]
      clear ws t2
      go_wp2_with fail
      refine (AD _).calls.mono ?_
      rintro e _ ⟨rfl, y1, rfl⟩
      go_wp2_with fail
      refine (W3 _ (by (repeat (first | (with_reducible exact SinceOf.refl _) | (with_reducible assumption) | (with_reducible refine SinceOf.alloc ?_ _) | (with_reducible refine SinceOf.drew ?_) | (with_reducible refine SinceOf.drewN ?_ _) | (with_reducible refine SinceOf.later ?_ _) | (with_reducible refine SinceOf.further ?_ _) | (with_reducible refine SinceOf.setCell ?_ (by first | exact Nat.le_refl _ | (simp; done) | omega | (simp; omega)) _))))).calls.mono ?_
      rintro e _ ⟨rfl, y2, rfl⟩
      go_wp2_with fail
      go_returns
      exact ⟨by first | rfl | simp, by (repeat (first | (with_reducible exact SinceOf.refl _) | (with_reducible assumption) | (with_reducible refine SinceOf.alloc ?_ _) | (with_reducible refine SinceOf.drew ?_) | (with_reducible refine SinceOf.drewN ?_ _) | (with_reducible refine SinceOf.later ?_ _) | (with_reducible refine SinceOf.further ?_ _) | (with_reducible refine SinceOf.setCell ?_ (by first | exact Nat.le_refl _ | (simp; done) | omega | (simp; omega)) _)))⟩
    · have k1 : (t == 2) = false := by simpa using t2
      have k2 : (tv != 2) = true := by
        have := ws.2.2
        simp only [bne_iff_ne]
        intro e
        exact t2 (this (.inl e))
      have k3 : (tw != 2) = true := by
        have := ws.2.2
        simp only [bne_iff_ne]
        intro e
        exact t2 (this (.inr e))
      clear ws t2
      go_wp2_with fail
      refine (AD _).calls.mono ?_
      rintro e _ ⟨rfl, y1, rfl⟩
      go_wp2_with fail
      refine (W3 _ (by (repeat (first | (with_reducible exact SinceOf.refl _) | (with_reducible assumption) | (with_reducible refine SinceOf.alloc ?_ _) | (with_reducible refine SinceOf.drew ?_) | (with_reducible refine SinceOf.drewN ?_ _) | (with_reducible refine SinceOf.later ?_ _) | (with_reducible refine SinceOf.further ?_ _) | (with_reducible refine SinceOf.setCell ?_ (by first | exact Nat.le_refl _ | (simp; done) | omega | (simp; omega)) _))))).calls.mono ?_
      rintro e _ ⟨rfl, y2, rfl⟩
      go_wp2_with fail
      go_returns
      exact ⟨by first | rfl | simp, by (repeat (first | (with_reducible exact SinceOf.refl _) | (with_reducible assumption) | (with_reducible refine SinceOf.alloc ?_ _) | (with_reducible refine SinceOf.drew ?_) | (with_reducible refine SinceOf.drewN ?_ _) | (with_reducible refine SinceOf.later ?_ _) | (with_reducible refine SinceOf.further ?_ _) | (with_reducible refine SinceOf.setCell ?_ (by first | exact Nat.le_refl _ | (simp; done) | omega | (simp; omega)) _)))⟩
end Go.Proofs.Ytbienlhofkfdpaa
