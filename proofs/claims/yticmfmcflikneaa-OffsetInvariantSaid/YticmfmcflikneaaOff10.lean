/- Layer 18: the examples of the document hold: awake. -/
import Derived.Test.YticmfmcflikneaaOff9
namespace Go.Proofs.Yticmfmcflikneaa
open Go.RowKit Go.Sort
set_option linter.unusedVariables false
set_option linter.unusedSimpArgs false
attribute [local go_sem ↓] Go.wp_at_zero Go.wp_at_succ

def exO : List Pt := [(-5, -12), (5, -12), (12, -5), (12, 5), (5, 12), (-5, 12), (-12, 5), (-12, -5)]
def sqL (x : Int) : List Pt := [(x, 0), (x + 2, 0), (x + 2, 2), (x, 2)]
theorem exO_hull : HullY (octP 12 5) exO where
  hull := {
    three := by decide
    convex := by
      have h : ∀ i, i < 8 → ∀ k, k < 8 → k ≠ i → k ≠ (i + 1) % 8 → 0 < det (at0 exO i) (rv exO (i + 1)) (at0 exO k) := by decide +kernel
      exact fun i k hi hk => h i hi k hk
    left := by
      have h : ∀ i, i < 8 → ∀ q ∈ octP 12 5, 0 ≤ det (at0 exO i) (rv exO (i + 1)) q := by decide +kernel
      exact fun i hi => h i hi
    sub := by decide +kernel }
  first := by
    have h : ∀ q ∈ octP 12 5, at0 exO 0 = q ∨ (at0 exO 0).2 < q.2 ∨ (at0 exO 0).2 = q.2 ∧ (at0 exO 0).1 < q.1 := by decide +kernel
    exact h
theorem exO_res : OctRes 12 exO 0 := .inr ⟨by decide, by decide, rfl, exO_hull, by decide⟩
theorem sq_fits : ∀ r ∈ [sqL 0], Fits 9 r := by
  intro r hr
  obtain rfl : r = sqL 0 := by simpa using hr
  refine ⟨by decide +kernel, by decide, ?_⟩
  have h : ∀ p ∈ sqL 0, (-(8000 - 9) ≤ p.1 ∧ p.1 ≤ 8000 - 9) ∧ (-(8000 - 9) ≤ p.2 ∧ p.2 ≤ 8000 - 9) := by decide +kernel
  exact h
theorem sq_convex : ∀ s ∈ [sqL 5], convexB s = true := by decide +kernel
theorem sq_gap : gapV [sqL 0] [sqL 5] 9 = (3, 0) := by
  have hF := fun (j : Int) (h : j ≤ 9) => fun r hr => (sq_fits r hr).less h
  refine gapV_some (by decide) (by decide) (apart_clear (by decide) (by decide) (hF 9 (by decide)) sq_convex).1 (by decide) (by decide) ?_ ?_
  · refine (apart_clear (by decide) (by decide) (hF 3 (by decide)) sq_convex).2.2 (fun r hr s hs => ?_)
    obtain rfl : r = sqL 0 := by simpa using hr
    obtain rfl : s = sqL 5 := by simpa using hs
    refine ⟨1, 0, by decide, ?_⟩
    have h : ∀ p ∈ sqL 0, ∀ q ∈ sqL 5, 1 * p.1 + 0 * p.2 + 3 ≤ 1 * q.1 + 0 * q.2 := by decide +kernel
    exact h
  · intro x hx hx9
    have hA := apart_clear (k := x) (by omega) (by omega) (hF x hx9) sq_convex
    cases hq : (apartV [sqL 0] [sqL 5] x).1
    · rfl
    · exfalso
      obtain ⟨K, L, hKL, h⟩ := hA.2.1 hq (sqL 0) (by simp) (sqL 5) (by simp)
      have h1 := h (2, 0) (by decide) (5, 0) (by decide)
      have h2 := h (2, 2) (by decide) (5, 0) (by decide)
      unfold lin at h1 h2
      simp only [Int.mul_zero, Int.add_zero] at h1 h2
      have n1 := ab_nonneg K
      have n2 := ab_nonneg L
      have o1 := octH_nonneg (k := x) (by omega)
      have m1 := Int.mul_le_mul_of_nonneg_left (show 4 ≤ x by omega) n1
      have m2 := Int.mul_le_mul_of_nonneg_left (show 4 ≤ x by omega) n2
      have m3 := Int.mul_nonneg n2 o1
      have m4 := Int.mul_nonneg n1 o1
      unfold octM at h1
      have e1 : K ≤ ab K := by unfold ab; split <;> omega
      have e2 : ab K = 0 := by omega
      have e3 : ab L = 0 := by omega
      rcases hKL with q | q
      · have := ab_pos q; omega
      · have := ab_pos q; omega
set_option maxRecDepth 100000 in
set_option maxHeartbeats 4000000 in
theorem square_any (x : Int) (hx : 0 ≤ x) (hx2 : x ≤ 1000) (w : World) :
    Calls Try.prog 81 #[.int .i64 x, .int .i64 0, .int .i64 2] w fun e w' => ∃ A' c', e = .returned (.slice A' (sqL x).length c') ∧ IsVecs w' A' c' (sqL x) ∧ SinceOf w w' := by
  go_enter Try.func81, Try.ntmps81
  go_wp2_with fail
  go_returns
  have hO : OwnVecs w.heap.size (w.alloc (.cells #[.int .i64 x, .int .i64 0, .int .i64 (x + 2), .int .i64 0, .int .i64 (x + 2), .int .i64 2, .int .i64 x, .int .i64 2] 32)) (some ⟨w.heap.size, 0, none⟩) 4 (sqL x) := World.ownsRow_lit w _ 4 (Nat.le_refl _) (by decide) rfl
  exact ⟨_, 4, rfl, hO.isRow encV_len, by (repeat (first | (with_reducible exact SinceOf.refl _) | (with_reducible assumption) | (with_reducible refine SinceOf.alloc ?_ _) | (with_reducible refine SinceOf.drew ?_) | (with_reducible refine SinceOf.drewN ?_ _) | (with_reducible refine SinceOf.later ?_ _) | (with_reducible refine SinceOf.further ?_ _) | (with_reducible refine SinceOf.setCell ?_ (by first | exact Nat.le_refl _ | (simp; done) | omega | (simp; omega)) _)))⟩
theorem rings_one {w : World} {A : Option Addr} {c : Nat} (x : RgR) (h : IsRow encG 1 w A c [x]) (hv : IsVecs w x.A x.c x.xs) (hl : x.xs.length < 4611686018427387904) : IsRings w A c [x] :=
  ⟨h, (fun y hy => by
    have e : y = x := by simpa using hy
    rw [e]
    exact ⟨hv, hl⟩), by simp⟩
set_option maxRecDepth 100000 in
set_option maxHeartbeats 4000000 in
theorem awake18_any (w : World) : Yields Try.prog 44 #[] w (.bool true) := by
  apply Yields.ret
  go_enter Try.func44, Try.ntmps44
  go_wp2_with fail
  refine (octagon_any 12 _).mono ?_
  rintro e _ ⟨A1, c1, r, err, rfl, hv, hres, ⟨x1, rfl⟩⟩
  obtain ⟨rfl, rfl⟩ := hres.unique exO_res
  clear hres
  obtain ⟨g, off, rfl, hr⟩ := hv.at_ (by decide)
  have c0 := hr.v0 0 (by decide)
  have c1' := hr.v1 0 (by decide)
  have c2 := hr.v0 2 (by decide)
  have c3 := hr.v1 2 (by decide)
  have hg := hr.there
  have hxs := x1.size
  simp only [show exO.length = 8 from rfl, show exO[0] = (-5, -12) from rfl, show exO[2] = (12, -5) from rfl] at c0 c1' c2 c3
  simp only [show exO.length = 8 from rfl]
  simp at c0 c1' c2 c3
  clear hr hv
  go_wp2_with fail
  refine (square_any 0 (by decide) (by decide) _).mono ?_
  rintro e _ ⟨A2, c2', rfl, hv2, ⟨x2, rfl⟩⟩
  have HV2 := Lib.hid hv2
  clear hv2
  go_wp2_with fail
  refine (square_any 5 (by decide) (by decide) _).mono ?_
  rintro e _ ⟨A3, c3', rfl, hv3, ⟨x3, rfl⟩⟩
  have HV3 := Lib.hid hv3
  clear hv3
  go_wp2_with fail
  have q1 := rings_one ⟨A2, c2', sqL 0⟩ ((isRow_atG x2.wd x2.wd.heap.size ⟨A2, c2', sqL 0⟩ rfl).of (w' := x3.wd.alloc (.cells #[.slice A3 (sqL 5).length c3'] 25)) (by (repeat (first | (with_reducible exact SinceOf.refl _) | (with_reducible assumption) | (with_reducible refine SinceOf.alloc ?_ _) | (with_reducible refine SinceOf.drew ?_) | (with_reducible refine SinceOf.drewN ?_ _) | (with_reducible refine SinceOf.later ?_ _) | (with_reducible refine SinceOf.further ?_ _) | (with_reducible refine SinceOf.setCell ?_ (by first | exact Nat.le_refl _ | (simp; done) | omega | (simp; omega)) _))))) (HV2.out.of (by (repeat (first | (with_reducible exact SinceOf.refl _) | (with_reducible assumption) | (with_reducible refine SinceOf.alloc ?_ _) | (with_reducible refine SinceOf.drew ?_) | (with_reducible refine SinceOf.drewN ?_ _) | (with_reducible refine SinceOf.later ?_ _) | (with_reducible refine SinceOf.further ?_ _) | (with_reducible refine SinceOf.setCell ?_ (by first | exact Nat.le_refl _ | (simp; done) | omega | (simp; omega)) _))))) (by simp [sqL])
  have q2 := rings_one ⟨A3, c3', sqL 5⟩ (isRow_atG x3.wd x3.wd.heap.size ⟨A3, c3', sqL 5⟩ rfl) (HV3.out.of (by (repeat (first | (with_reducible exact SinceOf.refl _) | (with_reducible assumption) | (with_reducible refine SinceOf.alloc ?_ _) | (with_reducible refine SinceOf.drew ?_) | (with_reducible refine SinceOf.drewN ?_ _) | (with_reducible refine SinceOf.later ?_ _) | (with_reducible refine SinceOf.further ?_ _) | (with_reducible refine SinceOf.setCell ?_ (by first | exact Nat.le_refl _ | (simp; done) | omega | (simp; omega)) _))))) (by simp [sqL])
  have G := gap_any _ _ _ _ _ _ 9 _ q1 q2 (by simp) (fun x hx => by
    have e : x = ⟨A2, c2', sqL 0⟩ := by simpa using hx
    rw [e]
    simp [sqL])
  rw [show gapV (vxs [⟨A2, c2', sqL 0⟩]) (vxs [⟨A3, c3', sqL 5⟩]) 9 = (3, 0) from sq_gap] at G
  clear q1 q2
  simp only [List.length_cons, List.length_nil] at G
  refine G.mono ?_
  rintro e _ ⟨rfl, ⟨x4, rfl⟩⟩
  go_wp2_with fail
  go_returns
  exact ⟨rfl, by (repeat (first | (with_reducible exact SinceOf.refl _) | (with_reducible assumption) | (with_reducible refine SinceOf.alloc ?_ _) | (with_reducible refine SinceOf.drew ?_) | (with_reducible refine SinceOf.drewN ?_ _) | (with_reducible refine SinceOf.later ?_ _) | (with_reducible refine SinceOf.further ?_ _) | (with_reducible refine SinceOf.setCell ?_ (by first | exact Nat.le_refl _ | (simp; done) | omega | (simp; omega)) _)))⟩
end Go.Proofs.Yticmfmcflikneaa
