/- Layer 46: On, divisor and single of package seg. -/
import Derived.Test.YtkpnffokjpgalaaGreatKJnt5
namespace Go.Proofs.YtkpnffokjpgalaaGreat
set_option linter.unusedVariables false
set_option linter.unusedSimpArgs false
open Go.RowKit Go.Sort
attribute [local go_sem ↓] Go.wp_at_zero Go.wp_at_succ

def big15 (x : Int) : Prop := -1000000000000000 ≤ x ∧ x ≤ 1000000000000000
theorem tmod_big {a b : Int} (hb : b ≠ 0) (hs : big15 b) : big15 (a.tmod b) := by
  have := tmod_lt (a := a) hb
  unfold big15 at *
  omega
set_option maxRecDepth 100000 in
set_option maxHeartbeats 4000000 in
theorem segDivisor_any (a b : Int) (ha : big15 a) (hb : big15 b) (w : World) : Gives Tryz.prog 138 #[.int .i64 a, .int .i64 b] w (.int .i64 (gcdI a b)) := by
  apply Gives.ret
  go_enter Tryz.func138, Tryz.ntmps138
  go_wp2_with fail
  go_loopg [0, 1] b.natAbs (fun gas s0 s1 wr => ∃ (x y : Int), s0 = .int .i64 x ∧ s1 = .int .i64 y ∧ big15 x ∧ big15 y ∧ gcdI x y = gcdI a b ∧ y.natAbs ≤ gas ∧ LaterOf w wr)
  case atStart => exact ⟨a, b, rfl, rfl, ha, hb, rfl, Nat.le_refl _, by (repeat (first | (with_reducible exact LaterOf.refl _) | (with_reducible refine LaterOf.alloc ?_ _) | (with_reducible refine LaterOf.drew ?_) | (with_reducible refine LaterOf.drewN ?_ _) | (with_reducible refine LaterOf.later ?_ _) | (with_reducible refine LaterOf.setCell ?_ (by first | exact Nat.le_refl _ | (simp; done) | omega | (simp; omega)) _)))⟩
  case round =>
    obtain ⟨x, y, rfl, rfl, hx, hy, hg, hgas, ⟨z, rfl⟩⟩ := hrel
    by_cases h0 : y = 0
    · subst h0
      have hm := gcd_end x
      rw [hg] at hm
      have hn : IntKind.i64.wrap (-x) = -x := IntWalk.i64_in _ (by unfold big15 at hx; omega)
      go_wp2_with fail
      go_returns
      exact ⟨by rw [hm]; rfl, by (repeat (first | (with_reducible exact LaterOf.refl _) | (with_reducible refine LaterOf.alloc ?_ _) | (with_reducible refine LaterOf.drew ?_) | (with_reducible refine LaterOf.drewN ?_ _) | (with_reducible refine LaterOf.later ?_ _) | (with_reducible refine LaterOf.setCell ?_ (by first | exact Nat.le_refl _ | (simp; done) | omega | (simp; omega)) _)))⟩
    · have hs := tmod_big (a := x) h0 hy
      have ht := tmod_lt (a := x) h0
      have he : gcdI y (x.tmod y) = gcdI a b := by rw [← hg]; unfold gcdI; rw [gcd_step]
      have hb1 : (y != 0) = true := by simpa using h0
      go_wp2_with fail
      go_region
      go_wp2_with fail
      go_roundg (x.tmod y).natAbs
      case measure => omega
      case rel => exact ⟨y, x.tmod y, rfl, rfl, hy, hs, he, Nat.le_refl _, by (repeat (first | (with_reducible exact LaterOf.refl _) | (with_reducible refine LaterOf.alloc ?_ _) | (with_reducible refine LaterOf.drew ?_) | (with_reducible refine LaterOf.drewN ?_ _) | (with_reducible refine LaterOf.later ?_ _) | (with_reducible refine LaterOf.setCell ?_ (by first | exact Nat.le_refl _ | (simp; done) | omega | (simp; omega)) _)))⟩
theorem isRow_at2J (W : World) (g : Nat) (a b x y : Int) (hg : W.heap.size = g) : IsVecs (W.alloc (.cells #[.int .i64 a, .int .i64 b, .int .i64 x, .int .i64 y] 25)) (some ⟨g, 0, none⟩) 2 [(a, b), (x, y)] := by
  subst hg
  have h : OwnVecs W.heap.size (W.alloc (.cells #[.int .i64 a, .int .i64 b, .int .i64 x, .int .i64 y] 25)) (some ⟨W.heap.size, 0, none⟩) 2 [(a, b), (x, y)] := World.ownsRow_lit W _ 2 (Nat.le_refl _) (by decide) rfl
  exact h.isRow encV_len
theorem boxOf_two (p q : Pt) : boxOf [p, q] = (imin p.1 q.1, imin p.2 q.2, imax p.1 q.1, imax p.2 q.2) := by
  unfold boxOf
  simp only [List.foldl_cons, List.foldl_nil, bstep]
  rw [show imin p.1 p.1 = p.1 by unfold imin; split <;> omega, show imin p.2 p.2 = p.2 by unfold imin; split <;> omega, show imax p.1 p.1 = p.1 by unfold imax; split <;> omega, show imax p.2 p.2 = p.2 by unfold imax; split <;> omega]
set_option maxRecDepth 100000 in
set_option maxHeartbeats 8000000 in
theorem segOn_any (s : SegP) (p : Pt) (w : World) : Gives Tryz.prog 96 #[sgv s, vv p.1 p.2] w (.bool (onB s p)) := by
  apply Gives.ret
  have B := boxOf_any (l := [s.1, s.2])
  rw [boxOf_two] at B
  simp only [List.length_cons, List.length_nil, List.isEmpty_cons, Bool.not_false] at B
  have V := segValid_any s
  have I := inBox_any (imin s.1.1 s.2.1) (imin s.1.2 s.2.2) (imax s.1.1 s.2.1) (imax s.1.2 s.2.2) p.1 p.2
  have T := turn_any s.1.1 s.1.2 s.2.1 s.2.2 p.1 p.2
  have hon : onB s p = (segOk s && inB (imin s.1.1 s.2.1) (imin s.1.2 s.2.2) (imax s.1.1 s.2.1) (imax s.1.2 s.2.2) p.1 p.2 && decide (turnI s.1.1 s.1.2 s.2.1 s.2.2 p.1 p.2 = 0)) := rfl
  rw [hon]
  clear hon
  generalize segOk s = v at *
  generalize inB (imin s.1.1 s.2.1) (imin s.1.2 s.2.2) (imax s.1.1 s.2.1) (imax s.1.2 s.2.2) p.1 p.2 = i at *
  generalize turnI s.1.1 s.1.2 s.2.1 s.2.2 p.1 p.2 = t at *
  generalize imin s.1.1 s.2.1 = b0 at *
  generalize imin s.1.2 s.2.2 = b1 at *
  generalize imax s.1.1 s.2.1 = b2 at *
  generalize imax s.1.2 s.2.2 = b3 at *
  obtain ⟨⟨ax, ay⟩, bx, by'⟩ := s
  obtain ⟨px, py⟩ := p
  simp only at *
  have fin : ∀ W : World, W.heap.size = w.heap.size + 2 → IsVecs (W.alloc (.cells #[.int .i64 ax, .int .i64 ay, .int .i64 bx, .int .i64 by'] 25)) (some ⟨w.heap.size + 2, 0, none⟩) 2 [(ax, ay), (bx, by')] := fun W h => isRow_at2J W _ ax ay bx by' h
  cases v
  · clear I T
    go_enter Tryz.func96, Tryz.ntmps96
    go_wp2_with fail
    refine (B _ _ _ (fin _ (by simp [go_sem])) (by decide)).calls.mono ?_
    rintro e _ ⟨rfl, x1, rfl⟩
    go_wp2_with fail
    refine (V _).calls.mono ?_
    rintro e _ ⟨rfl, x2, rfl⟩
    go_wp2_with fail
    go_returns
    exact ⟨rfl, by (repeat (first | (with_reducible exact LaterOf.refl _) | (with_reducible refine LaterOf.alloc ?_ _) | (with_reducible refine LaterOf.drew ?_) | (with_reducible refine LaterOf.drewN ?_ _) | (with_reducible refine LaterOf.later ?_ _) | (with_reducible refine LaterOf.setCell ?_ (by first | exact Nat.le_refl _ | (simp; done) | omega | (simp; omega)) _)))⟩
  cases i
  · clear T
    go_enter Tryz.func96, Tryz.ntmps96
    go_wp2_with fail
    refine (B _ _ _ (fin _ (by simp [go_sem])) (by decide)).calls.mono ?_
    rintro e _ ⟨rfl, x1, rfl⟩
    go_wp2_with fail
    refine (V _).calls.mono ?_
    rintro e _ ⟨rfl, x2, rfl⟩
    go_wp2_with fail
    refine (I _).calls.mono ?_
    rintro e _ ⟨rfl, x3, rfl⟩
    go_wp2_with fail
    go_returns
    exact ⟨rfl, by (repeat (first | (with_reducible exact LaterOf.refl _) | (with_reducible refine LaterOf.alloc ?_ _) | (with_reducible refine LaterOf.drew ?_) | (with_reducible refine LaterOf.drewN ?_ _) | (with_reducible refine LaterOf.later ?_ _) | (with_reducible refine LaterOf.setCell ?_ (by first | exact Nat.le_refl _ | (simp; done) | omega | (simp; omega)) _)))⟩
  · go_enter Tryz.func96, Tryz.ntmps96
    go_wp2_with fail
    refine (B _ _ _ (fin _ (by simp [go_sem])) (by decide)).calls.mono ?_
    rintro e _ ⟨rfl, x1, rfl⟩
    go_wp2_with fail
    refine (V _).calls.mono ?_
    rintro e _ ⟨rfl, x2, rfl⟩
    go_wp2_with fail
    refine (I _).calls.mono ?_
    rintro e _ ⟨rfl, x3, rfl⟩
    go_wp2_with fail
    refine (T _).calls.mono ?_
    rintro e _ ⟨rfl, x4, rfl⟩
    go_wp2_with fail
    go_returns
    exact ⟨by first | rfl | (simp; exact Bool.eq_iff_iff.2 (by simp)), by (repeat (first | (with_reducible exact LaterOf.refl _) | (with_reducible refine LaterOf.alloc ?_ _) | (with_reducible refine LaterOf.drew ?_) | (with_reducible refine LaterOf.drewN ?_ _) | (with_reducible refine LaterOf.later ?_ _) | (with_reducible refine LaterOf.setCell ?_ (by first | exact Nat.le_refl _ | (simp; done) | omega | (simp; omega)) _)))⟩
end Go.Proofs.YtkpnffokjpgalaaGreat
/- Layer 46: PointOf, single and lines of package seg. -/
namespace Go.Proofs.YtkpnffokjpgalaaGreat
set_option linter.unusedVariables false
set_option linter.unusedSimpArgs false
open Go.RowKit Go.Sort
attribute [local go_sem ↓] Go.wp_at_zero Go.wp_at_succ

/-- What two segments have in common, as the program keeps it. -/
abbrev cm (k x y d : Int) (s : SegP) : Value := .agg #[.int .i64 k, .int .i64 x, .int .i64 y, .int .i64 d, .int .i64 s.1.1, .int .i64 s.1.2, .int .i64 s.2.1, .int .i64 s.2.2]
theorem pointOf_any (x y : Int) (w : World) : Gives Tryz.prog 139 #[vv x y] w (.agg #[.int .i64 x, .int .i64 y, .int .i64 1]) := by
  apply Gives.ret
  go_enter Tryz.func139, Tryz.ntmps139
  go_wp2_with fail
  go_returns
  exact ⟨rfl, by (repeat (first | (with_reducible exact LaterOf.refl _) | (with_reducible refine LaterOf.alloc ?_ _) | (with_reducible refine LaterOf.drew ?_) | (with_reducible refine LaterOf.drewN ?_ _) | (with_reducible refine LaterOf.later ?_ _) | (with_reducible refine LaterOf.setCell ?_ (by first | exact Nat.le_refl _ | (simp; done) | omega | (simp; omega)) _)))⟩
theorem single_any (x y : Int) (w : World) : Gives Tryz.prog 116 #[vv x y] w (cm 1 x y 1 noSeg) := by
  apply Gives.ret
  have P := pointOf_any x y
  go_enter Tryz.func116, Tryz.ntmps116
  go_wp2_with fail
  refine (P _).calls.mono ?_
  rintro e _ ⟨rfl, x1, rfl⟩
  go_wp2_with fail
  go_returns
  exact ⟨rfl, by (repeat (first | (with_reducible exact LaterOf.refl _) | (with_reducible refine LaterOf.alloc ?_ _) | (with_reducible refine LaterOf.drew ?_) | (with_reducible refine LaterOf.drewN ?_ _) | (with_reducible refine LaterOf.later ?_ _) | (with_reducible refine LaterOf.setCell ?_ (by first | exact Nat.le_refl _ | (simp; done) | omega | (simp; omega)) _)))⟩
end Go.Proofs.YtkpnffokjpgalaaGreat
/- Layer 46: lines of package seg. -/
namespace Go.Proofs.YtkpnffokjpgalaaGreat
set_option linter.unusedVariables false
set_option linter.unusedSimpArgs false
open Go.RowKit Go.Sort
attribute [local go_sem ↓] Go.wp_at_zero Go.wp_at_succ

def sml (x : Int) : Prop := -8000 ≤ x ∧ x ≤ 8000
def mid9 (x : Int) : Prop := -1000000000 ≤ x ∧ x ≤ 1000000000
theorem sub_sml {p q : Pt} (hp : near4 p) (hq : near4 q) : wsub q.1 p.1 = q.1 - p.1 ∧ wsub q.2 p.2 = q.2 - p.2 ∧ sml (q.1 - p.1) ∧ sml (q.2 - p.2) := by
  unfold near4 at hp hq
  unfold sml wsub wrap64
  omega
theorem mul_sml {x y : Int} (hx : sml x) (hy : sml y) : -64000000 ≤ x * y ∧ x * y ≤ 64000000 := by
  have h1 : (x * y).natAbs = x.natAbs * y.natAbs := Int.natAbs_mul _ _
  have h2 : x.natAbs * y.natAbs ≤ 8000 * 8000 := Nat.mul_le_mul (by unfold sml at hx; omega) (by unfold sml at hy; omega)
  omega
theorem cross_sml {a b c d : Int} (ha : sml a) (hb : sml b) (hc : sml c) (hd : sml d) : crossI a b c d = a * d - b * c ∧ mid9 (a * d - b * c) := by
  have m1 := mul_sml ha hd
  have m2 := mul_sml hb hc
  rw [crossI_eq]
  unfold mid9 wrap64
  omega
theorem mul_mid {x y : Int} (hx : sml x) (hy : mid9 y) : -8000000000000 ≤ x * y ∧ x * y ≤ 8000000000000 := by
  have h1 : (x * y).natAbs = x.natAbs * y.natAbs := Int.natAbs_mul _ _
  have h2 : x.natAbs * y.natAbs ≤ 8000 * 1000000000 := Nat.mul_le_mul (by unfold sml at hx; omega) (by unfold mid9 at hy; omega)
  omega
/-- The kind of meeting of two lines, by the places of their point. -/
def kindL (a b d : Int) : Int := if a < 0 ∨ d < a ∨ b < 0 ∨ d < b then 0 else if a = 0 ∨ a = d ∨ b = 0 ∨ b = d then 1 else 2
theorem kindL_meet {a b c d : Pt} (h : cr4 a b c d ≠ 0) : (meetK a b c d) = (if 0 < cr4 a b c d then kindL (det c d a) (-det a b c) (cr4 a b c d) else kindL (-det c d a) (det a b c) (-cr4 a b c d), noSeg) := by
  unfold meetK
  rw [if_pos h]
  generalize cr4 a b c d = D at *
  generalize det c d a = x
  generalize det a b c = y
  unfold kindL btwB
  simp only [Bool.and_eq_true, decide_eq_true_eq]
  split <;> split <;> split <;> (try split) <;> (try split) <;> first | rfl | omega
end Go.Proofs.YtkpnffokjpgalaaGreat
