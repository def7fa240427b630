/- Layer 46: where a point lies, of the reference of layer 8. -/
import Derived.Test.YtkpnffokjpgalaaGreatKJnt19
import Derived.Test.YtkpnffokjpgalaaGreatKJnt10
namespace Go.Proofs.YtkpnffokjpgalaaGreat
set_option linter.unusedVariables false
set_option linter.unusedSimpArgs false
open Go.RowKit Go.Sort
attribute [local go_sem ↓] Go.wp_at_zero Go.wp_at_succ

/-- A point as a rational one. -/
abbrev pv1 (x y : Int) : Value := .agg #[.int .i64 x, .int .i64 y, .int .i64 1]
def near8 (p : Pt) : Prop := (-8000 ≤ p.1 ∧ p.1 ≤ 8000) ∧ (-8000 ≤ p.2 ∧ p.2 ≤ 8000)
set_option maxRecDepth 100000 in
set_option maxHeartbeats 4000000 in
theorem refDivisor7_any (a b : Int) (ha : 0 ≤ a ∧ big15 a) (hb : 0 ≤ b ∧ big15 b) (w : World) : Gives Tryz.prog 119 #[.int .i64 a, .int .i64 b] w (.int .i64 (gcdI a b)) := by
  apply Gives.ret
  go_enter Tryz.func119, Tryz.ntmps119
  go_wp2_with fail
  go_loopg [0, 1] b.natAbs (fun gas s0 s1 wr => ∃ (x y : Int), s0 = .int .i64 x ∧ s1 = .int .i64 y ∧ 0 ≤ x ∧ 0 ≤ y ∧ big15 x ∧ big15 y ∧ gcdI x y = gcdI a b ∧ y.natAbs ≤ gas ∧ LaterOf w wr)
  case atStart => exact ⟨a, b, rfl, rfl, ha.1, hb.1, ha.2, hb.2, rfl, Nat.le_refl _, by (repeat (first | (with_reducible exact LaterOf.refl _) | (with_reducible refine LaterOf.alloc ?_ _) | (with_reducible refine LaterOf.drew ?_) | (with_reducible refine LaterOf.drewN ?_ _) | (with_reducible refine LaterOf.later ?_ _) | (with_reducible refine LaterOf.setCell ?_ (by first | exact Nat.le_refl _ | (simp; done) | omega | (simp; omega)) _)))⟩
  case round =>
    obtain ⟨x, y, rfl, rfl, hx0, hy0, hx, hy, hg, hgas, ⟨z, rfl⟩⟩ := hrel
    by_cases h0 : y = 0
    · subst h0
      have hm := gcd_end x
      rw [hg, if_neg (by omega)] at hm
      go_wp2_with fail
      go_returns
      exact ⟨by rw [hm]; rfl, by (repeat (first | (with_reducible exact LaterOf.refl _) | (with_reducible refine LaterOf.alloc ?_ _) | (with_reducible refine LaterOf.drew ?_) | (with_reducible refine LaterOf.drewN ?_ _) | (with_reducible refine LaterOf.later ?_ _) | (with_reducible refine LaterOf.setCell ?_ (by first | exact Nat.le_refl _ | (simp; done) | omega | (simp; omega)) _)))⟩
    · have hs := tmod_big (a := x) h0 hy
      have ht := tmod_lt (a := x) h0
      have hn := Int.tmod_nonneg y hx0
      have he : gcdI y (x.tmod y) = gcdI a b := by rw [← hg]; unfold gcdI; rw [gcd_step]
      have hb1 : (y != 0) = true := by simpa using h0
      rw [Int.tmod_eq_emod_of_nonneg hx0] at hs ht hn he
      go_wp2_with fail
      go_region
      go_wp2_with fail
      go_roundg (x % y).natAbs
      case measure => omega
      case rel => exact ⟨y, x % y, rfl, rfl, hy0, hn, hy, hs, he, Nat.le_refl _, by (repeat (first | (with_reducible exact LaterOf.refl _) | (with_reducible refine LaterOf.alloc ?_ _) | (with_reducible refine LaterOf.drew ?_) | (with_reducible refine LaterOf.drewN ?_ _) | (with_reducible refine LaterOf.later ?_ _) | (with_reducible refine LaterOf.setCell ?_ (by first | exact Nat.le_refl _ | (simp; done) | omega | (simp; omega)) _)))⟩
set_option maxRecDepth 100000 in
theorem refPointOf_any (x y : Int) (w : World) : Gives Tryz.prog 58 #[vv x y] w (pv1 x y) := by
  apply Gives.ret
  go_enter Tryz.func58, Tryz.ntmps58
  go_wp2_with fail
  go_returns
  exact ⟨rfl, by (repeat (first | (with_reducible exact LaterOf.refl _) | (with_reducible refine LaterOf.alloc ?_ _) | (with_reducible refine LaterOf.drew ?_) | (with_reducible refine LaterOf.drewN ?_ _) | (with_reducible refine LaterOf.later ?_ _) | (with_reducible refine LaterOf.setCell ?_ (by first | exact Nat.le_refl _ | (simp; done) | omega | (simp; omega)) _)))⟩
theorem iabs_8 {x : Int} (h : -8000 ≤ x ∧ x ≤ 8000) : 0 ≤ iabs x ∧ big15 (iabs x) := by
  unfold iabs wneg wrap64 big15
  split <;> omega
theorem withinB_4000 (x y : Int) : withinB x y 4000 = (decide (-4000 ≤ x ∧ x ≤ 4000) && decide (-4000 ≤ y ∧ y ≤ 4000)) := by
  unfold withinB
  rw [show wneg 4000 = -4000 from by unfold wneg; decide +kernel]
  apply Bool.eq_iff_iff.2
  simp only [Bool.and_eq_true, decide_eq_true_eq]
  omega
set_option maxRecDepth 100000 in
set_option maxHeartbeats 8000000 in
theorem refValidPoint_any (x y : Int) (h : near8 (x, y)) (w : World) : Gives Tryz.prog 90 #[pv1 x y] w (.bool (withinB x y 4000)) := by
  apply Gives.ret
  obtain ⟨⟨x1, x2⟩, y1, y2⟩ := h
  simp only at x1 x2 y1 y2
  rw [withinB_4000]
  have key : (x < -4000) ∨ (¬ x < -4000 ∧ 4000 < x) ∨ (¬ x < -4000 ∧ ¬ 4000 < x ∧ y < -4000) ∨ (¬ x < -4000 ∧ ¬ 4000 < x ∧ ¬ y < -4000 ∧ 4000 < y) ∨ (¬ x < -4000 ∧ ¬ 4000 < x ∧ ¬ y < -4000 ∧ ¬ 4000 < y) := by omega
  have A1 := refAbs_any x
  have A2 := refAbs_any y
  have i1 := iabs_8 ⟨x1, x2⟩
  have i2 := iabs_8 ⟨y1, y2⟩
  have D1 := refDivisor7_any (iabs x) (iabs y) i1 i2
  have g0 : 0 ≤ gcdI (iabs x) (iabs y) := by unfold gcdI; omega
  have g1 := gcd_big i1.2 i2.2
  have D2 := refDivisor7_any (gcdI (iabs x) (iabs y)) 1 ⟨g0, g1⟩ ⟨by omega, by unfold big15; omega⟩
  have e1 : gcdI (gcdI (iabs x) (iabs y)) 1 = 1 := by
    unfold gcdI
    rw [Int.gcd_one_right]
    rfl
  rw [e1] at D2
  generalize iabs x = ax at *
  generalize iabs y = ay at *
  generalize gcdI ax ay = gg at *
  clear i1 i2 g0 g1 e1
  rcases key with h1 | ⟨h1, h2⟩ | ⟨h1, h2, h3⟩ | ⟨h1, h2, h3, h4⟩ | ⟨h1, h2, h3, h4⟩
  · go_enter Tryz.func90, Tryz.ntmps90
    go_wp2_with fail
    go_returns
    exact ⟨by first | rfl | (simp; omega), by (repeat (first | (with_reducible exact LaterOf.refl _) | (with_reducible refine LaterOf.alloc ?_ _) | (with_reducible refine LaterOf.drew ?_) | (with_reducible refine LaterOf.drewN ?_ _) | (with_reducible refine LaterOf.later ?_ _) | (with_reducible refine LaterOf.setCell ?_ (by first | exact Nat.le_refl _ | (simp; done) | omega | (simp; omega)) _)))⟩
  · go_enter Tryz.func90, Tryz.ntmps90
    go_wp2_with fail
    go_returns
    exact ⟨by first | rfl | (simp; omega), by (repeat (first | (with_reducible exact LaterOf.refl _) | (with_reducible refine LaterOf.alloc ?_ _) | (with_reducible refine LaterOf.drew ?_) | (with_reducible refine LaterOf.drewN ?_ _) | (with_reducible refine LaterOf.later ?_ _) | (with_reducible refine LaterOf.setCell ?_ (by first | exact Nat.le_refl _ | (simp; done) | omega | (simp; omega)) _)))⟩
  · go_enter Tryz.func90, Tryz.ntmps90
    go_wp2_with fail
    go_returns
    exact ⟨by first | rfl | (simp; omega), by (repeat (first | (with_reducible exact LaterOf.refl _) | (with_reducible refine LaterOf.alloc ?_ _) | (with_reducible refine LaterOf.drew ?_) | (with_reducible refine LaterOf.drewN ?_ _) | (with_reducible refine LaterOf.later ?_ _) | (with_reducible refine LaterOf.setCell ?_ (by first | exact Nat.le_refl _ | (simp; done) | omega | (simp; omega)) _)))⟩
  · go_enter Tryz.func90, Tryz.ntmps90
    go_wp2_with fail
    go_returns
    exact ⟨by first | rfl | (simp; omega), by (repeat (first | (with_reducible exact LaterOf.refl _) | (with_reducible refine LaterOf.alloc ?_ _) | (with_reducible refine LaterOf.drew ?_) | (with_reducible refine LaterOf.drewN ?_ _) | (with_reducible refine LaterOf.later ?_ _) | (with_reducible refine LaterOf.setCell ?_ (by first | exact Nat.le_refl _ | (simp; done) | omega | (simp; omega)) _)))⟩
  · go_enter Tryz.func90, Tryz.ntmps90
    go_wp2_with fail
    refine region_later (by kernel_rfl) (by kernel_rfl) ?_
    repeat (go_big_quiet_step ((first | (with_reducible refine later_same (A1 _)) | (with_reducible refine later_same (A2 _)) | (with_reducible refine Gives.later (D1 _)) | (with_reducible refine Gives.later (D2 _)))))
    refine wpQuiet_nil ?_
    rintro _ ⟨z2, rfl⟩
    go_wp2_with fail
    go_returns
    exact ⟨by first | rfl | (simp; omega), by (repeat (first | (with_reducible exact LaterOf.refl _) | (with_reducible refine LaterOf.alloc ?_ _) | (with_reducible refine LaterOf.drew ?_) | (with_reducible refine LaterOf.drewN ?_ _) | (with_reducible refine LaterOf.later ?_ _) | (with_reducible refine LaterOf.setCell ?_ (by first | exact Nat.le_refl _ | (simp; done) | omega | (simp; omega)) _)))⟩
set_option maxRecDepth 100000 in
set_option maxHeartbeats 8000000 in
theorem refSide8_any (a b p : Pt) (ha : near4 a) (hb : near4 b) (hp : near8 p) (w : World) : Gives Tryz.prog 92 #[vv a.1 a.2, vv b.1 b.2, pv1 p.1 p.2] w (.int .i64 (cmpi (det a b p) 0)) := by
  apply Gives.ret
  obtain ⟨e1, e2, s1, s2⟩ := sub_sml ha hb
  have S := refSub_any b.1 b.2 a.1 a.2
  rw [e1, e2] at S
  have hdet : det a b p = (b.1 - a.1) * (p.2 - a.2) - (b.2 - a.2) * (p.1 - a.1) := by unfold det; rfl
  have SG := sign_any (det a b p)
  have t1 : -12000 ≤ p.2 - a.2 ∧ p.2 - a.2 ≤ 12000 := by unfold near4 at ha; unfold near8 at hp; omega
  have t2 : -12000 ≤ p.1 - a.1 ∧ p.1 - a.1 ≤ 12000 := by unfold near4 at ha; unfold near8 at hp; omega
  have m1 := mul_mid (y := p.2 - a.2) s1 (by unfold mid9; omega)
  have m2 := mul_mid (y := p.1 - a.1) s2 (by unfold mid9; omega)
  unfold near4 at ha hb
  unfold near8 at hp
  rw [hdet] at SG ⊢
  clear hdet
  generalize hu : b.1 - a.1 = u at *
  generalize hv : b.2 - a.2 = v at *
  obtain ⟨ax, ay⟩ := a
  obtain ⟨bx, by'⟩ := b
  obtain ⟨px, py⟩ := p
  simp only at *
  have q1 : IntKind.i64.wrap (py - ay) = py - ay := IntWalk.i64_in _ (by omega)
  have q2 : IntKind.i64.wrap (px - ax) = px - ax := IntWalk.i64_in _ (by omega)
  generalize hd : py - ay = d at *
  generalize he : px - ax = f at *
  have q3 : IntKind.i64.wrap (u * d) = u * d := IntWalk.i64_in _ (by omega)
  have q4 : IntKind.i64.wrap (v * f) = v * f := IntWalk.i64_in _ (by omega)
  generalize hg : u * d = g at *
  generalize hh : v * f = k at *
  have q5 : IntKind.i64.wrap (g - k) = g - k := IntWalk.i64_in _ (by omega)
  generalize hj : g - k = j at *
  have HH := Lib.hid (And.intro hu (And.intro hv (And.intro hd (And.intro he (And.intro hg (And.intro hh hj))))))
  have r1 : IntKind.i64.wrap ay = ay := IntWalk.i64_in _ (by omega)
  have r2 : IntKind.i64.wrap ax = ax := IntWalk.i64_in _ (by omega)
  clear hu hv
  go_enter Tryz.func92, Tryz.ntmps92
  go_wp2_with fail
  refine (S _).calls.mono ?_
  rintro e _ ⟨rfl, x1, rfl⟩
  go_wp2_with fail
  refine (SG _).mono ?_
  rintro e _ ⟨rfl, rfl⟩
  go_wp2_with fail
  go_returns
  exact ⟨rfl, by (repeat (first | (with_reducible exact LaterOf.refl _) | (with_reducible refine LaterOf.alloc ?_ _) | (with_reducible refine LaterOf.drew ?_) | (with_reducible refine LaterOf.drewN ?_ _) | (with_reducible refine LaterOf.later ?_ _) | (with_reducible refine LaterOf.setCell ?_ (by first | exact Nat.le_refl _ | (simp; done) | omega | (simp; omega)) _)))⟩
set_option maxRecDepth 100000 in
set_option maxHeartbeats 8000000 in
theorem refOn8_any (s : SegP) (p : Pt) (hs : segOk s = true) (hp : near8 p) (w : World) : Gives Tryz.prog 91 #[sgv s, pv1 p.1 p.2] w (.bool (onSB s.1 s.2 p)) := by
  apply Gives.ret
  obtain ⟨h1, h2⟩ := segOk_near.1 hs
  have T := refSide8_any s.1 s.2 p h1 h2 hp
  unfold near4 at h1 h2
  have hz := @cmpi_zero (det s.1 s.2 p)
  unfold onSB
  generalize det s.1 s.2 p = dt at *
  generalize hc : cmpi dt 0 = t at *
  have hdt : decide (dt = 0) = decide (t = 0) := decide_eq_decide.2 hz.symm
  rw [hdt]
  clear hz hdt hc
  obtain ⟨⟨ax, ay⟩, bx, by'⟩ := s
  obtain ⟨px, py⟩ := p
  simp only at *
  have b1 : -4000 ≤ imin ax bx ∧ imin ax bx ≤ 4000 := by unfold imin; split <;> omega
  have b2 : -4000 ≤ imax ax bx ∧ imax ax bx ≤ 4000 := by unfold imax; split <;> omega
  have b3 : -4000 ≤ imin ay by' ∧ imin ay by' ≤ 4000 := by unfold imin; split <;> omega
  have b4 : -4000 ≤ imax ay by' ∧ imax ay by' ≤ 4000 := by unfold imax; split <;> omega
  have w1 : IntKind.i64.wrap (imin ax bx) = imin ax bx := IntWalk.i64_in _ (by omega)
  have w2 : IntKind.i64.wrap (imax ax bx) = imax ax bx := IntWalk.i64_in _ (by omega)
  have w3 : IntKind.i64.wrap (imin ay by') = imin ay by' := IntWalk.i64_in _ (by omega)
  have w4 : IntKind.i64.wrap (imax ay by') = imax ay by' := IntWalk.i64_in _ (by omega)
  have key : (¬ imin ax bx ≤ px) ∨ (imin ax bx ≤ px ∧ ¬ px ≤ imax ax bx) ∨ (imin ax bx ≤ px ∧ px ≤ imax ax bx ∧ ¬ imin ay by' ≤ py) ∨ (imin ax bx ≤ px ∧ px ≤ imax ax bx ∧ imin ay by' ≤ py ∧ ¬ py ≤ imax ay by') ∨ (imin ax bx ≤ px ∧ px ≤ imax ax bx ∧ imin ay by' ≤ py ∧ py ≤ imax ay by') := by omega
  clear b1 b2 b3 b4 h1 h2 hs hp
  rcases key with h1 | ⟨h1, h2⟩ | ⟨h1, h2, h3⟩ | ⟨h1, h2, h3, h4⟩ | ⟨h1, h2, h3, h4⟩
  · go_enter Tryz.func91, Tryz.ntmps91
    go_wp2_with fail
    go_returns
    exact ⟨by first | rfl | (simp; omega), by (repeat (first | (with_reducible exact LaterOf.refl _) | (with_reducible refine LaterOf.alloc ?_ _) | (with_reducible refine LaterOf.drew ?_) | (with_reducible refine LaterOf.drewN ?_ _) | (with_reducible refine LaterOf.later ?_ _) | (with_reducible refine LaterOf.setCell ?_ (by first | exact Nat.le_refl _ | (simp; done) | omega | (simp; omega)) _)))⟩
  · go_enter Tryz.func91, Tryz.ntmps91
    go_wp2_with fail
    go_returns
    exact ⟨by first | rfl | (simp; omega), by (repeat (first | (with_reducible exact LaterOf.refl _) | (with_reducible refine LaterOf.alloc ?_ _) | (with_reducible refine LaterOf.drew ?_) | (with_reducible refine LaterOf.drewN ?_ _) | (with_reducible refine LaterOf.later ?_ _) | (with_reducible refine LaterOf.setCell ?_ (by first | exact Nat.le_refl _ | (simp; done) | omega | (simp; omega)) _)))⟩
  · go_enter Tryz.func91, Tryz.ntmps91
    go_wp2_with fail
    go_returns
    exact ⟨by first | rfl | (simp; omega), by (repeat (first | (with_reducible exact LaterOf.refl _) | (with_reducible refine LaterOf.alloc ?_ _) | (with_reducible refine LaterOf.drew ?_) | (with_reducible refine LaterOf.drewN ?_ _) | (with_reducible refine LaterOf.later ?_ _) | (with_reducible refine LaterOf.setCell ?_ (by first | exact Nat.le_refl _ | (simp; done) | omega | (simp; omega)) _)))⟩
  · go_enter Tryz.func91, Tryz.ntmps91
    go_wp2_with fail
    go_returns
    exact ⟨by first | rfl | (simp; omega), by (repeat (first | (with_reducible exact LaterOf.refl _) | (with_reducible refine LaterOf.alloc ?_ _) | (with_reducible refine LaterOf.drew ?_) | (with_reducible refine LaterOf.drewN ?_ _) | (with_reducible refine LaterOf.later ?_ _) | (with_reducible refine LaterOf.setCell ?_ (by first | exact Nat.le_refl _ | (simp; done) | omega | (simp; omega)) _)))⟩
  · go_enter Tryz.func91, Tryz.ntmps91
    go_wp2_with fail
    refine (T _).calls.mono ?_
    rintro e _ ⟨rfl, x2, rfl⟩
    go_wp2_with fail
    go_returns
    exact ⟨by (simp [h1, h2, h3, h4]; exact Bool.eq_iff_iff.2 (by simp)), by (repeat (first | (with_reducible exact LaterOf.refl _) | (with_reducible refine LaterOf.alloc ?_ _) | (with_reducible refine LaterOf.drew ?_) | (with_reducible refine LaterOf.drewN ?_ _) | (with_reducible refine LaterOf.later ?_ _) | (with_reducible refine LaterOf.setCell ?_ (by first | exact Nat.le_refl _ | (simp; done) | omega | (simp; omega)) _)))⟩
end Go.Proofs.YtkpnffokjpgalaaGreat
