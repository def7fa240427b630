/- Layer 10: small, has; the reference's check and Farthest. -/
import Derived.Test.YticmfmcflikneaaHull14
import Derived.Test.YticmfmcflikneaaHull11
import Derived.BigQuiet
namespace Go.Proofs.Yticmfmcflikneaa
open Go.RowKit Go.Sort
set_option linter.unusedVariables false
attribute [local go_sem ↓] Go.wp_at_zero Go.wp_at_succ

def smallB (l : List Pt) : Bool := !l.any farB && decide (l.length ≤ 30)
set_option maxRecDepth 100000 in
set_option maxHeartbeats 2000000 in
theorem small10_any (A : Option Addr) (c : Nat) (l : List (Int × Int)) (w : World) (h : IsVecs w A c l) (hlen : l.length < 4611686018427387904) :
    Gives Try.prog 25 #[.slice A l.length c] w (.bool (smallB l)) := by
  apply Gives.ret
  have H := Lib.hid h
  clear h
  unfold smallB
  go_enter Try.func25, Try.ntmps25
  go_wp2_with fail
  go_loopg [3] l.length (fun gas s3 wr => ∃ k : Nat, k ≤ l.length ∧ l.length - k ≤ gas ∧ s3 = .int .i64 k ∧ LaterOf w wr ∧ l.any farB = (l.drop k).any farB)
  case atStart => exact ⟨0, by omega, by omega, rfl, by (repeat (first | (with_reducible exact LaterOf.refl _) | (with_reducible refine LaterOf.alloc ?_ _) | (with_reducible refine LaterOf.drew ?_) | (with_reducible refine LaterOf.drewN ?_ _) | (with_reducible refine LaterOf.later ?_ _) | (with_reducible refine LaterOf.setCell ?_ (by first | exact Nat.le_refl _ | (simp; done) | omega | (simp; omega)) _))), by rw [List.drop_zero]⟩
  case round =>
    obtain ⟨k, hk, hgas, rfl, ⟨z, rfl⟩, hany⟩ := hrel
    by_cases hlt : k < l.length
    · have hc := (H.out.of (LaterOf.since ⟨z, rfl⟩))
      obtain ⟨g, off, rfl, hr⟩ := hc.at_ (by omega)
      have hO := hr.there
      have k0 := hr.v0 k hlt
      have k1 := hr.v1 k hlt
      rw [any_dropV farB hlt] at hany
      generalize l[k] = x at *
      obtain ⟨x, y⟩ := x
      simp only at k0 k1
      clear hc hr
      have C := refWithin_any x y 8000
      have e : farB (x, y) = !withinB x y 8000 := rfl
      rw [e] at hany
      clear e
      generalize withinB x y 8000 = b at *
      cases b
      all_goals
        have HA := Lib.hid hany
        clear hany
        go_wp2_with fail
        refine (C _).calls.mono ?_
        rintro e _ ⟨rfl, x1, rfl⟩
        go_wp2_with fail
      · go_returns
        exact ⟨by rw [HA.out]; rfl, by (repeat (first | (with_reducible exact LaterOf.refl _) | (with_reducible refine LaterOf.alloc ?_ _) | (with_reducible refine LaterOf.drew ?_) | (with_reducible refine LaterOf.drewN ?_ _) | (with_reducible refine LaterOf.later ?_ _) | (with_reducible refine LaterOf.setCell ?_ (by first | exact Nat.le_refl _ | (simp; done) | omega | (simp; omega)) _)))⟩
      · go_roundg (l.length - (k + 1))
        case measure => omega
        case rel => exact ⟨k + 1, hlt, Nat.le_refl _, by go_num, by (repeat (first | (with_reducible exact LaterOf.refl _) | (with_reducible refine LaterOf.alloc ?_ _) | (with_reducible refine LaterOf.drew ?_) | (with_reducible refine LaterOf.drewN ?_ _) | (with_reducible refine LaterOf.later ?_ _) | (with_reducible refine LaterOf.setCell ?_ (by first | exact Nat.le_refl _ | (simp; done) | omega | (simp; omega)) _))), by rw [HA.out]; rfl⟩
    · have hkl : k = l.length := by omega
      rw [hkl, List.drop_length] at hany
      have HA := Lib.hid hany
      clear hany
      go_wp2_with fail
      go_returns
      refine ⟨?_, by (repeat (first | (with_reducible exact LaterOf.refl _) | (with_reducible refine LaterOf.alloc ?_ _) | (with_reducible refine LaterOf.drew ?_) | (with_reducible refine LaterOf.drewN ?_ _) | (with_reducible refine LaterOf.later ?_ _) | (with_reducible refine LaterOf.setCell ?_ (by first | exact Nat.le_refl _ | (simp; done) | omega | (simp; omega)) _)))⟩
      rw [HA.out]
      have e : decide ((l.length : Int) ≤ 30) = decide (l.length ≤ 30) := by
        by_cases q : l.length ≤ 30
        · rw [decide_eq_true q]; exact decide_eq_true (by omega)
        · rw [decide_eq_false q]; exact decide_eq_false (by omega)
      rw [← e]
      rfl
/-- The reference's test of a ring and a direction. -/
def checkR (r : List Pt) (d : Pt) : Int := if convexB r then (if farB d then 2 else 0) else 11
theorem check10_any (A : Option Addr) (c : Nat) (r : List (Int × Int)) (dx dy : Int) (w : World) (h : IsVecs w A c r) (hlen : r.length < 4611686018427387904) :
    Yields Try.prog 78 #[.slice A r.length c, vv dx dy] w (.int .i64 (checkR r (dx, dy))) := by
  apply Yields.ret
  have C := fun W (hW : SinceOf w W) => refConvex_any A c r W (h.of hW) hlen
  have N := refWithin_any dx dy 8000
  have hN : withinB dx dy 8000 = !farB (dx, dy) := by unfold farB; simp
  rw [hN] at N
  have H := Lib.hid h
  clear h hN
  unfold checkR
  cases hv : convexB r
  · rw [hv] at C
    go_enter Try.func78, Try.ntmps78
    go_wp2_with fail
    refine (C _ (by (repeat (first | (with_reducible exact SinceOf.refl _) | (with_reducible assumption) | (with_reducible refine SinceOf.alloc ?_ _) | (with_reducible refine SinceOf.drew ?_) | (with_reducible refine SinceOf.drewN ?_ _) | (with_reducible refine SinceOf.later ?_ _) | (with_reducible refine SinceOf.further ?_ _) | (with_reducible refine SinceOf.setCell ?_ (by first | exact Nat.le_refl _ | (simp; done) | omega | (simp; omega)) _))))).calls.mono ?_
    rintro e _ ⟨rfl, x0, rfl⟩
    go_wp2_with fail
    go_returns
    exact ⟨rfl, by (repeat (first | (with_reducible exact SinceOf.refl _) | (with_reducible assumption) | (with_reducible refine SinceOf.alloc ?_ _) | (with_reducible refine SinceOf.drew ?_) | (with_reducible refine SinceOf.drewN ?_ _) | (with_reducible refine SinceOf.later ?_ _) | (with_reducible refine SinceOf.further ?_ _) | (with_reducible refine SinceOf.setCell ?_ (by first | exact Nat.le_refl _ | (simp; done) | omega | (simp; omega)) _)))⟩
  · rw [hv] at C
    cases hf : farB (dx, dy)
    all_goals
      rw [hf] at N
      go_enter Try.func78, Try.ntmps78
      go_wp2_with fail
      refine (C _ (by (repeat (first | (with_reducible exact SinceOf.refl _) | (with_reducible assumption) | (with_reducible refine SinceOf.alloc ?_ _) | (with_reducible refine SinceOf.drew ?_) | (with_reducible refine SinceOf.drewN ?_ _) | (with_reducible refine SinceOf.later ?_ _) | (with_reducible refine SinceOf.further ?_ _) | (with_reducible refine SinceOf.setCell ?_ (by first | exact Nat.le_refl _ | (simp; done) | omega | (simp; omega)) _))))).calls.mono ?_
      rintro e _ ⟨rfl, x0, rfl⟩
      clear C
      go_wp2_with fail
      refine (N _).calls.mono ?_
      rintro e _ ⟨rfl, x1, rfl⟩
      go_wp2_with fail
      go_returns
      exact ⟨rfl, by (repeat (first | (with_reducible exact SinceOf.refl _) | (with_reducible assumption) | (with_reducible refine SinceOf.alloc ?_ _) | (with_reducible refine SinceOf.drew ?_) | (with_reducible refine SinceOf.drewN ?_ _) | (with_reducible refine SinceOf.later ?_ _) | (with_reducible refine SinceOf.further ?_ _) | (with_reducible refine SinceOf.setCell ?_ (by first | exact Nat.le_refl _ | (simp; done) | omega | (simp; omega)) _)))⟩
end Go.Proofs.Yticmfmcflikneaa
