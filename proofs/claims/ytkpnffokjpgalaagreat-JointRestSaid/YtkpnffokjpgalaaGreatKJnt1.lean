/- Layer 46: the divisor of the program and Steps. -/
import Derived.Test.YtkpnffokjpgalaaGreatKSeg2
import Derived.Test.YtkpnffokjpgalaaGreatKJntP8
import Derived.RegionTactic
import Derived.ChangeAlike
import Derived.BigRegion
import Derived.Deep.RegionHeld3
namespace Go.Proofs.YtkpnffokjpgalaaGreat
set_option linter.unusedVariables false
set_option linter.unusedSimpArgs false
open Go.RowKit Go.Sort
attribute [local go_sem ↓] Go.wp_at_zero Go.wp_at_succ

def small5 (x : Int) : Prop := -100000 ≤ x ∧ x ≤ 100000
theorem tmod_small {a b : Int} (hb : b ≠ 0) (hs : small5 b) : small5 (a.tmod b) := by
  have := tmod_lt (a := a) hb
  unfold small5 at *
  omega
set_option maxRecDepth 100000 in
set_option maxHeartbeats 4000000 in
theorem divisor_any (a b : Int) (ha : small5 a) (hb : small5 b) (w : World) : Gives Tryz.prog 44 #[.int .i64 a, .int .i64 b] w (.int .i64 (gcdI a b)) := by
  apply Gives.ret
  go_enter Tryz.func44, Tryz.ntmps44
  go_wp2_with fail
  go_loopg [0, 1] b.natAbs (fun gas s0 s1 wr => ∃ (x y : Int), s0 = .int .i64 x ∧ s1 = .int .i64 y ∧ small5 x ∧ small5 y ∧ gcdI x y = gcdI a b ∧ y.natAbs ≤ gas ∧ LaterOf w wr)
  case atStart => exact ⟨a, b, rfl, rfl, ha, hb, rfl, Nat.le_refl _, by (repeat (first | (with_reducible exact LaterOf.refl _) | (with_reducible refine LaterOf.alloc ?_ _) | (with_reducible refine LaterOf.drew ?_) | (with_reducible refine LaterOf.drewN ?_ _) | (with_reducible refine LaterOf.later ?_ _) | (with_reducible refine LaterOf.setCell ?_ (by first | exact Nat.le_refl _ | (simp; done) | omega | (simp; omega)) _)))⟩
  case round =>
    obtain ⟨x, y, rfl, rfl, hx, hy, hg, hgas, ⟨z, rfl⟩⟩ := hrel
    by_cases h0 : y = 0
    · subst h0
      have hm := gcd_end x
      rw [hg] at hm
      have hn : IntKind.i64.wrap (-x) = -x := IntWalk.i64_in _ (by unfold small5 at hx; omega)
      go_wp2_with fail
      go_returns
      exact ⟨by rw [hm]; rfl, by (repeat (first | (with_reducible exact LaterOf.refl _) | (with_reducible refine LaterOf.alloc ?_ _) | (with_reducible refine LaterOf.drew ?_) | (with_reducible refine LaterOf.drewN ?_ _) | (with_reducible refine LaterOf.later ?_ _) | (with_reducible refine LaterOf.setCell ?_ (by first | exact Nat.le_refl _ | (simp; done) | omega | (simp; omega)) _)))⟩
    · have hs := tmod_small (a := x) h0 hy
      have ht := tmod_lt (a := x) h0
      have he : gcdI y (x.tmod y) = gcdI a b := by rw [← hg]; unfold gcdI; rw [gcd_step]
      have hw : IntKind.i64.wrap (x.tmod y) = x.tmod y := IntWalk.i64_in _ (by unfold small5 at hs; omega)
      have hb1 : (y != 0) = true := by simpa using h0
      go_wp2_with fail
      go_region
      go_wp2_with fail
      go_roundg (x.tmod y).natAbs
      case measure => omega
      case rel => exact ⟨y, x.tmod y, rfl, rfl, hy, hs, he, Nat.le_refl _, by (repeat (first | (with_reducible exact LaterOf.refl _) | (with_reducible refine LaterOf.alloc ?_ _) | (with_reducible refine LaterOf.drew ?_) | (with_reducible refine LaterOf.drewN ?_ _) | (with_reducible refine LaterOf.later ?_ _) | (with_reducible refine LaterOf.setCell ?_ (by first | exact Nat.le_refl _ | (simp; done) | omega | (simp; omega)) _)))⟩
set_option maxRecDepth 100000 in
theorem segValid_any (s : SegP) (w : World) : Gives Tryz.prog 42 #[sgv s] w (.bool (segOk s)) := by
  apply Gives.ret
  have W1 := within_any s.1.1 s.1.2 4000
  have W2 := within_any s.2.1 s.2.2 4000
  unfold segOk
  cases h1 : withinB s.1.1 s.1.2 4000
  · rw [h1] at W1
    clear W2 h1
    go_enter Tryz.func42, Tryz.ntmps42
    go_wp2_with fail
    refine (W1 _).calls.mono ?_
    rintro e _ ⟨rfl, x1, rfl⟩
    go_wp2_with fail
    go_returns
    exact ⟨rfl, by (repeat (first | (with_reducible exact LaterOf.refl _) | (with_reducible refine LaterOf.alloc ?_ _) | (with_reducible refine LaterOf.drew ?_) | (with_reducible refine LaterOf.drewN ?_ _) | (with_reducible refine LaterOf.later ?_ _) | (with_reducible refine LaterOf.setCell ?_ (by first | exact Nat.le_refl _ | (simp; done) | omega | (simp; omega)) _)))⟩
  · rw [h1] at W1
    clear h1
    generalize withinB s.2.1 s.2.2 4000 = b at *
    go_enter Tryz.func42, Tryz.ntmps42
    go_wp2_with fail
    refine (W1 _).calls.mono ?_
    rintro e _ ⟨rfl, x1, rfl⟩
    go_wp2_with fail
    refine (W2 _).calls.mono ?_
    rintro e _ ⟨rfl, x2, rfl⟩
    go_wp2_with fail
    go_returns
    exact ⟨by first | rfl | simp, by (repeat (first | (with_reducible exact LaterOf.refl _) | (with_reducible refine LaterOf.alloc ?_ _) | (with_reducible refine LaterOf.drew ?_) | (with_reducible refine LaterOf.drewN ?_ _) | (with_reducible refine LaterOf.later ?_ _) | (with_reducible refine LaterOf.setCell ?_ (by first | exact Nat.le_refl _ | (simp; done) | omega | (simp; omega)) _)))⟩
/-- The steps of a segment. -/
def stepsI (s : SegP) : Int := if segOk s = true then stepsK s.1 s.2 else 0
theorem sub_near {p q : Pt} (hp : near4 p) (hq : near4 q) : wsub q.1 p.1 = q.1 - p.1 ∧ wsub q.2 p.2 = q.2 - p.2 ∧ small5 (q.1 - p.1) ∧ small5 (q.2 - p.2) := by
  unfold near4 at hp hq
  unfold small5 wsub wrap64
  omega
set_option maxRecDepth 100000 in
theorem steps_any (s : SegP) (w : World) : Gives Tryz.prog 13 #[sgv s] w (.int .i64 (stepsI s)) := by
  apply Gives.ret
  have V := segValid_any s
  unfold stepsI
  by_cases h : segOk s = true
  · rw [if_pos h]
    rw [h] at V
    obtain ⟨h1, h2⟩ := segOk_near.1 h
    obtain ⟨e1, e2, s1, s2⟩ := sub_near h1 h2
    have S := sub_any s.2.1 s.2.2 s.1.1 s.1.2
    rw [e1, e2] at S
    have D := divisor_any _ _ s1 s2
    change ∀ w, Gives _ _ _ w (.int .i64 (stepsK s.1 s.2)) at D
    generalize stepsK s.1 s.2 = g at *
    clear h h1 h2 e1 e2 s1 s2
    go_enter Tryz.func13, Tryz.ntmps13
    go_wp2_with fail
    refine (V _).calls.mono ?_
    rintro e _ ⟨rfl, x1, rfl⟩
    go_wp2_with fail
    refine (S _).calls.mono ?_
    rintro e _ ⟨rfl, x2, rfl⟩
    go_wp2_with fail
    refine (D _).calls.mono ?_
    rintro e _ ⟨rfl, x3, rfl⟩
    go_wp2_with fail
    go_returns
    exact ⟨rfl, by (repeat (first | (with_reducible exact LaterOf.refl _) | (with_reducible refine LaterOf.alloc ?_ _) | (with_reducible refine LaterOf.drew ?_) | (with_reducible refine LaterOf.drewN ?_ _) | (with_reducible refine LaterOf.later ?_ _) | (with_reducible refine LaterOf.setCell ?_ (by first | exact Nat.le_refl _ | (simp; done) | omega | (simp; omega)) _)))⟩
  · rw [if_neg h]
    rw [Bool.eq_false_iff.2 h] at V
    go_enter Tryz.func13, Tryz.ntmps13
    go_wp2_with fail
    refine (V _).calls.mono ?_
    rintro e _ ⟨rfl, x1, rfl⟩
    go_wp2_with fail
    go_returns
    exact ⟨rfl, by (repeat (first | (with_reducible exact LaterOf.refl _) | (with_reducible refine LaterOf.alloc ?_ _) | (with_reducible refine LaterOf.drew ?_) | (with_reducible refine LaterOf.drewN ?_ _) | (with_reducible refine LaterOf.later ?_ _) | (with_reducible refine LaterOf.setCell ?_ (by first | exact Nat.le_refl _ | (simp; done) | omega | (simp; omega)) _)))⟩
end Go.Proofs.YtkpnffokjpgalaaGreat
/- Layer 46: Steps of the reference; point of both. -/
namespace Go.Proofs.YtkpnffokjpgalaaGreat
set_option linter.unusedVariables false
set_option linter.unusedSimpArgs false
open Go.RowKit Go.Sort
attribute [local go_sem ↓] Go.wp_at_zero Go.wp_at_succ

theorem iabs_small {x : Int} (h : small5 x) : iabs x = (if 0 ≤ x then x else -x) ∧ 0 ≤ iabs x ∧ small5 (iabs x) := by
  unfold iabs
  split
  · exact ⟨rfl, by omega, h⟩
  · unfold wneg wrap64 small5 at *
    omega
set_option maxRecDepth 100000 in
set_option maxHeartbeats 4000000 in
theorem refSteps_any (s : SegP) (w : World) : Gives Tryz.prog 14 #[sgv s] w (.int .i64 (stepsI s)) := by
  apply Gives.ret
  have V := refSegValid_any s
  unfold stepsI
  by_cases h : segOk s = true
  · rw [if_pos h]
    rw [h] at V
    obtain ⟨h1, h2⟩ := segOk_near.1 h
    obtain ⟨e1, e2, s1, s2⟩ := sub_near h1 h2
    have S := refSub_any s.2.1 s.2.2 s.1.1 s.1.2
    rw [e1, e2] at S
    have hg0 : gcdI (iabs (s.2.1 - s.1.1)) (iabs (s.2.2 - s.1.2)) = stepsK s.1 s.2 := by
      rw [(iabs_small s1).1, (iabs_small s2).1, gcd_abs]; rfl
    obtain ⟨-, p1, q1⟩ := iabs_small s1
    obtain ⟨-, p2, q2⟩ := iabs_small s2
    have A1 := refAbs_any (s.2.1 - s.1.1)
    have A2 := refAbs_any (s.2.2 - s.1.2)
    generalize stepsK s.1 s.2 = g at *
    generalize s.2.1 - s.1.1 = dx at *
    generalize s.2.2 - s.1.2 = dy at *
    generalize iabs dx = ux at *
    generalize iabs dy = uy at *
    clear h h1 h2 e1 e2 s1 s2
    go_enter Tryz.func14, Tryz.ntmps14
    go_wp2_with fail
    refine (V _).calls.mono ?_
    rintro e _ ⟨rfl, x1, rfl⟩
    go_wp2_with fail
    refine (S _).calls.mono ?_
    rintro e _ ⟨rfl, x2, rfl⟩
    go_wp2_with fail
    refine region_later (by kernel_rfl) (by kernel_rfl) ?_
    repeat (go_big_quiet_step ((first | refine later_same (A1 _) | refine later_same (A2 _))))
    refine wpQuiet_nil ?_
    rintro _ ⟨x3, rfl⟩
    clear V S A1 A2
    go_wp2_with fail
    go_loopg [4, 5] uy.natAbs (fun gas s4 s5 wr => ∃ (x y : Int), s4 = .int .i64 x ∧ s5 = .int .i64 y ∧ 0 ≤ x ∧ 0 ≤ y ∧ small5 x ∧ small5 y ∧ gcdI x y = g ∧ y.natAbs ≤ gas ∧ LaterOf w wr)
    case atStart => exact ⟨ux, uy, rfl, rfl, p1, p2, q1, q2, hg0, Nat.le_refl _, by (repeat (first | (with_reducible exact LaterOf.refl _) | (with_reducible refine LaterOf.alloc ?_ _) | (with_reducible refine LaterOf.drew ?_) | (with_reducible refine LaterOf.drewN ?_ _) | (with_reducible refine LaterOf.later ?_ _) | (with_reducible refine LaterOf.setCell ?_ (by first | exact Nat.le_refl _ | (simp; done) | omega | (simp; omega)) _)))⟩
    case round =>
      obtain ⟨x, y, rfl, rfl, hx0, hy0, hx, hy, hg, hgas, ⟨z, rfl⟩⟩ := hrel
      by_cases h0 : y = 0
      · subst h0
        have hm : x = g := by rw [gcd_end, if_neg (by omega)] at hg; exact hg
        subst hm
        go_wp2_with fail
        go_returns
        exact ⟨rfl, by (repeat (first | (with_reducible exact LaterOf.refl _) | (with_reducible refine LaterOf.alloc ?_ _) | (with_reducible refine LaterOf.drew ?_) | (with_reducible refine LaterOf.drewN ?_ _) | (with_reducible refine LaterOf.later ?_ _) | (with_reducible refine LaterOf.setCell ?_ (by first | exact Nat.le_refl _ | (simp; done) | omega | (simp; omega)) _)))⟩
      · have hs := tmod_small (a := x) h0 hy
        have ht := tmod_lt (a := x) h0
        have hn := Int.tmod_nonneg (a := x) y hx0
        have he : gcdI y (x.tmod y) = g := by rw [← hg]; unfold gcdI; rw [gcd_step]
        have hb1 : (y != 0) = true := by simpa using h0
        go_wp2_with fail
        go_region
        go_wp2_with fail
        go_roundg (x.tmod y).natAbs
        case measure => omega
        case rel => exact ⟨y, x.tmod y, rfl, by first | rfl | rw [Int.tmod_eq_emod_of_nonneg hx0], hy0, hn, hy, hs, he, Nat.le_refl _, by (repeat (first | (with_reducible exact LaterOf.refl _) | (with_reducible refine LaterOf.alloc ?_ _) | (with_reducible refine LaterOf.drew ?_) | (with_reducible refine LaterOf.drewN ?_ _) | (with_reducible refine LaterOf.later ?_ _) | (with_reducible refine LaterOf.setCell ?_ (by first | exact Nat.le_refl _ | (simp; done) | omega | (simp; omega)) _)))⟩
  · rw [if_neg h]
    rw [Bool.eq_false_iff.2 h] at V
    go_enter Tryz.func14, Tryz.ntmps14
    go_wp2_with fail
    refine (V _).calls.mono ?_
    rintro e _ ⟨rfl, x1, rfl⟩
    go_wp2_with fail
    go_returns
    exact ⟨rfl, by (repeat (first | (with_reducible exact LaterOf.refl _) | (with_reducible refine LaterOf.alloc ?_ _) | (with_reducible refine LaterOf.drew ?_) | (with_reducible refine LaterOf.drewN ?_ _) | (with_reducible refine LaterOf.later ?_ _) | (with_reducible refine LaterOf.setCell ?_ (by first | exact Nat.le_refl _ | (simp; done) | omega | (simp; omega)) _)))⟩
end Go.Proofs.YtkpnffokjpgalaaGreat
/- Layer 46: point of the program and of the reference. -/
namespace Go.Proofs.YtkpnffokjpgalaaGreat
set_option linter.unusedVariables false
set_option linter.unusedSimpArgs false
open Go.RowKit Go.Sort
attribute [local go_sem ↓] Go.wp_at_zero Go.wp_at_succ

/-- What the reckoning of a point needs: no wrap. -/
structure PtFacts (s : SegP) (n : Int) : Prop where
  g0 : ¬ stepsK s.1 s.2 = 0
  q1 : IntKind.i64.wrap ((s.2.1 - s.1.1).tdiv (stepsK s.1 s.2)) = (dirK s.1 s.2).1
  q2 : IntKind.i64.wrap ((s.2.2 - s.1.2).tdiv (stepsK s.1 s.2)) = (dirK s.1 s.2).2
  m1 : IntKind.i64.wrap ((dirK s.1 s.2).1 * n) = (dirK s.1 s.2).1 * n
  m2 : IntKind.i64.wrap ((dirK s.1 s.2).2 * n) = (dirK s.1 s.2).2 * n
  a1 : IntKind.i64.wrap (s.1.1 + (dirK s.1 s.2).1 * n) = (pointK s.1 s.2 n).1
  a2 : IntKind.i64.wrap (s.1.2 + (dirK s.1 s.2).2 * n) = (pointK s.1 s.2 n).2
theorem dir_small {x y g : Int} (h : x * g = y) (hg : 0 < g) (hy : small5 y) : small5 x := by
  have h1 : x.natAbs * g.natAbs = y.natAbs := by rw [← Int.natAbs_mul, h]
  have h2 : x.natAbs * 1 ≤ x.natAbs * g.natAbs := Nat.mul_le_mul_left _ (by omega)
  unfold small5 at *
  omega
theorem mul_small {x n : Int} (hx : small5 x) (hn : small5 n) : -10000000000 ≤ x * n ∧ x * n ≤ 10000000000 := by
  have h1 : (x * n).natAbs = x.natAbs * n.natAbs := Int.natAbs_mul _ _
  have h2 : x.natAbs * n.natAbs ≤ 100000 * 100000 := Nat.mul_le_mul (by unfold small5 at hx; omega) (by unfold small5 at hn; omega)
  omega
theorem ptFacts {s : SegP} {n : Int} (hs : segOk s = true) (hne : s.1 ≠ s.2) (hn : small5 n) : PtFacts s n := by
  obtain ⟨h1, h2⟩ := segOk_near.1 hs
  obtain ⟨e1, e2⟩ := dirK_mul s.1 s.2
  have hg := stepsK_pos hne
  obtain ⟨-, -, s1, s2⟩ := sub_near h1 h2
  have d1 := dir_small e1 hg s1
  have d2 := dir_small e2 hg s2
  have m1 := mul_small d1 hn
  have m2 := mul_small d2 hn
  unfold near4 at h1 h2
  refine ⟨by omega, ?_, ?_, IntWalk.i64_in _ (by omega), IntWalk.i64_in _ (by omega), IntWalk.i64_in _ (by omega), IntWalk.i64_in _ (by omega)⟩
  · change IntKind.i64.wrap (dirK s.1 s.2).1 = _
    exact IntWalk.i64_in _ (by unfold small5 at d1; omega)
  · change IntKind.i64.wrap (dirK s.1 s.2).2 = _
    exact IntWalk.i64_in _ (by unfold small5 at d2; omega)
set_option maxRecDepth 100000 in
set_option maxHeartbeats 4000000 in
theorem point_any (s : SegP) (n : Int) (hs : segOk s = true) (hne : s.1 ≠ s.2) (hn : small5 n) (w : World) : Gives Tryz.prog 39 #[sgv s, .int .i64 n] w (vv (pointK s.1 s.2 n).1 (pointK s.1 s.2 n).2) := by
  apply Gives.ret
  obtain ⟨g0, q1, q2, m1, m2, a1, a2⟩ := ptFacts hs hne hn
  obtain ⟨h1, h2⟩ := segOk_near.1 hs
  obtain ⟨e1, e2, s1, s2⟩ := sub_near h1 h2
  have T := steps_any s
  unfold stepsI at T
  rw [if_pos hs] at T
  have S := sub_any s.2.1 s.2.2 s.1.1 s.1.2
  rw [e1, e2] at S
  generalize stepsK s.1 s.2 = g at *
  generalize (pointK s.1 s.2 n).1 = r1 at *
  generalize (pointK s.1 s.2 n).2 = r2 at *
  generalize (dirK s.1 s.2).1 = v1 at *
  generalize (dirK s.1 s.2).2 = v2 at *
  generalize s.2.1 - s.1.1 = dx at *
  generalize s.2.2 - s.1.2 = dy at *
  clear hs h1 h2 e1 e2 s1 s2 hne
  go_enter Tryz.func39, Tryz.ntmps39
  go_wp2_with fail
  refine (T _).calls.mono ?_
  rintro e _ ⟨rfl, x1, rfl⟩
  go_wp2_with fail
  refine (S _).calls.mono ?_
  rintro e _ ⟨rfl, x2, rfl⟩
  go_wp2_with fail
  go_big_region
  go_wp2_with fail
  go_returns
  exact ⟨by rfl, by (repeat (first | (with_reducible exact LaterOf.refl _) | (with_reducible refine LaterOf.alloc ?_ _) | (with_reducible refine LaterOf.drew ?_) | (with_reducible refine LaterOf.drewN ?_ _) | (with_reducible refine LaterOf.later ?_ _) | (with_reducible refine LaterOf.setCell ?_ (by first | exact Nat.le_refl _ | (simp; done) | omega | (simp; omega)) _)))⟩
end Go.Proofs.YtkpnffokjpgalaaGreat
/- Layer 46: Point of the reference; place. -/
namespace Go.Proofs.YtkpnffokjpgalaaGreat
set_option linter.unusedVariables false
set_option linter.unusedSimpArgs false
open Go.RowKit Go.Sort
attribute [local go_sem ↓] Go.wp_at_zero Go.wp_at_succ

theorem pt_wadd {s : SegP} {n : Int} (hs : segOk s = true) (hne : s.1 ≠ s.2) (hn : small5 n) :
    wadd s.1.1 ((dirK s.1 s.2).1 * n) = (pointK s.1 s.2 n).1 ∧ wadd s.1.2 ((dirK s.1 s.2).2 * n) = (pointK s.1 s.2 n).2 := by
  obtain ⟨h1, h2⟩ := segOk_near.1 hs
  obtain ⟨e1, e2⟩ := dirK_mul s.1 s.2
  have hg := stepsK_pos hne
  obtain ⟨-, -, s1, s2⟩ := sub_near h1 h2
  have m1 := mul_small (dir_small e1 hg s1) hn
  have m2 := mul_small (dir_small e2 hg s2) hn
  unfold near4 at h1 h2
  unfold wadd wrap64 pointK
  simp only
  omega
set_option maxRecDepth 100000 in
set_option maxHeartbeats 8000000 in
theorem refPoint_any (s : SegP) (n : Int) (hs : segOk s = true) (hne : s.1 ≠ s.2) (hn : small5 n) (w : World) : Gives Tryz.prog 41 #[sgv s, .int .i64 n] w (vv (pointK s.1 s.2 n).1 (pointK s.1 s.2 n).2) := by
  apply Gives.ret
  obtain ⟨g0, q1, q2, m1, m2, -, -⟩ := ptFacts hs hne hn
  obtain ⟨h1, h2⟩ := segOk_near.1 hs
  obtain ⟨e1, e2, s1, s2⟩ := sub_near h1 h2
  have T := refSteps_any s
  unfold stepsI at T
  rw [if_pos hs] at T
  have S := refSub_any s.2.1 s.2.2 s.1.1 s.1.2
  rw [e1, e2] at S
  have AD := refAdd_any s.1.1 s.1.2 ((dirK s.1 s.2).1 * n) ((dirK s.1 s.2).2 * n)
  rw [(pt_wadd hs hne hn).1, (pt_wadd hs hne hn).2] at AD
  generalize stepsK s.1 s.2 = g at *
  generalize (pointK s.1 s.2 n).1 = r1 at *
  generalize (pointK s.1 s.2 n).2 = r2 at *
  generalize (dirK s.1 s.2).1 = v1 at *
  generalize (dirK s.1 s.2).2 = v2 at *
  generalize s.2.1 - s.1.1 = dx at *
  generalize s.2.2 - s.1.2 = dy at *
  clear hs h1 h2 e1 e2 s1 s2 hne
  obtain ⟨⟨ax, ay⟩, bx, by'⟩ := s
  simp only at *
  go_enter Tryz.func41, Tryz.ntmps41
  go_wp2_with fail
  refine (T _).calls.mono ?_
  rintro e _ ⟨rfl, x1, rfl⟩
  go_wp2_with fail
  refine (S _).calls.mono ?_
  rintro e _ ⟨rfl, x2, rfl⟩
  have z1 := x1.size
  have z2 := x2.size
  (try simp only [World.size_alloc, World.size_setCell, World.size_drew] at z1 z2)
  have na : ¬ w.heap.size = x2.wd.heap.size := by omega
  have nb : ¬ x2.wd.heap.size = w.heap.size := by omega
  have nc : ¬ w.heap.size + 1 = x2.wd.heap.size := by omega
  have nd : ¬ x2.wd.heap.size = w.heap.size + 1 := by omega
  go_wp2_with fail
  go_region_held3 (fun w' => w'.cell? ⟨w.heap.size, 0, none⟩ = some (.int .i64 ax) ∧ w'.cell? ⟨w.heap.size, 1, none⟩ = some (.int .i64 ay) ∧ w'.cell? ⟨x2.wd.heap.size, 0, none⟩ = some (.int .i64 dx) ∧ w'.cell? ⟨x2.wd.heap.size, 1, none⟩ = some (.int .i64 dy)) ((simp [go_sem, *]))
    ((go_at_call 84; (with_reducible refine (AD _).calls.mono ?_); rintro e _ ⟨rfl, y1, rfl⟩; have sz_y1 := y1.size; (try simp only [World.size_alloc, World.size_setCell, World.size_drew] at sz_y1); (try (have na_y1_0 : ¬ x2.wd.heap.size = y1.wd.heap.size := by omega)); (try (have nb_y1_0 : ¬ y1.wd.heap.size = x2.wd.heap.size := by omega)); (try (have na_y1_1 : ¬ w.heap.size + 1 = y1.wd.heap.size := by omega)); (try (have nb_y1_1 : ¬ y1.wd.heap.size = w.heap.size + 1 := by omega))))
  all_goals
    go_wp2_with fail
    go_returns
    exact ⟨by rfl, by (repeat (first | (with_reducible exact LaterOf.refl _) | (with_reducible refine LaterOf.alloc ?_ _) | (with_reducible refine LaterOf.drew ?_) | (with_reducible refine LaterOf.drewN ?_ _) | (with_reducible refine LaterOf.later ?_ _) | (with_reducible refine LaterOf.setCell ?_ (by first | exact Nat.le_refl _ | (simp; done) | omega | (simp; omega)) _)))⟩
end Go.Proofs.YtkpnffokjpgalaaGreat
