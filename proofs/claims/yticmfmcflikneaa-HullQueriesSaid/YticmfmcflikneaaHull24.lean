/- Layer 10: the walk of HullQueries. -/
import Derived.Test.YticmfmcflikneaaHull15
import Derived.Test.YticmfmcflikneaaHull23
namespace Go.Proofs.Yticmfmcflikneaa
open Go.RowKit Go.Sort
set_option linter.unusedVariables false
set_option linter.unusedSimpArgs false
attribute [local go_sem ↓] Go.wp_at_zero Go.wp_at_succ

set_option maxRecDepth 100000 in
set_option maxHeartbeats 8000000 in
theorem hullQueries_any (A : Option Addr) (c : Nat) (r : List (Int × Int)) (px py dx dy : Int) (w : World) (h : IsVecs w A c r) :
    Yields Try.prog 7 #[.slice A r.length c, vv px py, vv dx dy] w (.bool true) := by
  apply Yields.ret
  have H := Lib.hid h
  clear h
  by_cases h170 : 170 < r.length
  · have g1 : decide (170 < (r.length : Int)) = true := decide_eq_true (by omega)
    go_enter Try.func7, Try.ntmps7
    go_wp2_with fail
    refine (awake10_any _).calls.mono ?_
    rintro e _ ⟨rfl, x1, rfl⟩
    go_wp2_with fail
    go_returns
    exact ⟨rfl, by (repeat (first | (with_reducible exact SinceOf.refl _) | (with_reducible assumption) | (with_reducible refine SinceOf.alloc ?_ _) | (with_reducible refine SinceOf.drew ?_) | (with_reducible refine SinceOf.drewN ?_ _) | (with_reducible refine SinceOf.later ?_ _) | (with_reducible refine SinceOf.further ?_ _) | (with_reducible refine SinceOf.setCell ?_ (by first | exact Nat.le_refl _ | (simp; done) | omega | (simp; omega)) _)))⟩
  have g1 : decide (170 < (r.length : Int)) = false := decide_eq_false (by omega)
  have hlen : r.length < 4611686018427387904 := by omega
  have F1 := fun W (hW : SinceOf w W) => farthest_any A c r dx dy W (H.out.of hW) hlen
  have F2 := fun W (hW : SinceOf w W) => refFarthest_any A c r dx dy W (H.out.of hW) hlen
  have W1 := fun W (hW : SinceOf w W) => width_any A c r dx dy W (H.out.of hW) hlen
  have W2 := fun W (hW : SinceOf w W) => refWidth_any A c r dx dy W (H.out.of hW) hlen
  have D1 := fun W (hW : SinceOf w W) => diameter_any A c r W (H.out.of hW) hlen
  have D2 := fun W (hW : SinceOf w W) => refDiameter_any A c r W (H.out.of hW) hlen
  have C1 := fun W (hW : SinceOf w W) => convex_any A c r W (H.out.of hW) hlen
  have C2 := fun W (hW : SinceOf w W) => refConvex_any A c r W (H.out.of hW) hlen
  have P1 := fun W (hW : SinceOf w W) => where_any A c r px py W (H.out.of hW) hlen
  have P2 := fun W (hW : SinceOf w W) => refWhere_any A c r px py W (H.out.of hW) hlen
  have hdia : (if convexB r = true then diaR r r.length else 0) = (if convexB r = true then dia r else 0) := by
    by_cases q : convexB r = true
    · rw [if_pos q, if_pos q, dia_one q]
    · rw [if_neg q, if_neg q]
  rw [← wid_one] at W2
  rw [hdia] at D2
  clear hdia
  generalize farRes r (dx, dy) = fr at *
  generalize widRes r (dx, dy) = wr at *
  generalize (if convexB r = true then dia r else 0) = dr at *
  generalize (if convexB r = true then (0 : Int) else 11) = de at *
  generalize convexB r = cb at *
  generalize whereV r (px, py) = wv at *
  obtain ⟨⟨fx, fy⟩, fe⟩ := fr
  obtain ⟨ww, we⟩ := wr
  simp only at F1 F2 W1 W2
  go_enter Try.func7, Try.ntmps7
  go_wp2_with fail
  refine (awake10_any _).calls.mono ?_
  rintro e _ ⟨rfl, x1, rfl⟩
  go_wp2_with fail
  refine (F1 _ (by (repeat (first | (with_reducible exact SinceOf.refl _) | (with_reducible assumption) | (with_reducible refine SinceOf.alloc ?_ _) | (with_reducible refine SinceOf.drew ?_) | (with_reducible refine SinceOf.drewN ?_ _) | (with_reducible refine SinceOf.later ?_ _) | (with_reducible refine SinceOf.further ?_ _) | (with_reducible refine SinceOf.setCell ?_ (by first | exact Nat.le_refl _ | (simp; done) | omega | (simp; omega)) _))))).mono ?_
  rintro e _ ⟨rfl, ⟨x2, rfl⟩⟩
  clear F1
  go_wp2_with fail
  refine (F2 _ (by (repeat (first | (with_reducible exact SinceOf.refl _) | (with_reducible assumption) | (with_reducible refine SinceOf.alloc ?_ _) | (with_reducible refine SinceOf.drew ?_) | (with_reducible refine SinceOf.drewN ?_ _) | (with_reducible refine SinceOf.later ?_ _) | (with_reducible refine SinceOf.further ?_ _) | (with_reducible refine SinceOf.setCell ?_ (by first | exact Nat.le_refl _ | (simp; done) | omega | (simp; omega)) _))))).mono ?_
  rintro e _ ⟨rfl, ⟨x3, rfl⟩⟩
  clear F2
  go_wp2_with fail
  refine (W1 _ (by (repeat (first | (with_reducible exact SinceOf.refl _) | (with_reducible assumption) | (with_reducible refine SinceOf.alloc ?_ _) | (with_reducible refine SinceOf.drew ?_) | (with_reducible refine SinceOf.drewN ?_ _) | (with_reducible refine SinceOf.later ?_ _) | (with_reducible refine SinceOf.further ?_ _) | (with_reducible refine SinceOf.setCell ?_ (by first | exact Nat.le_refl _ | (simp; done) | omega | (simp; omega)) _))))).mono ?_
  rintro e _ ⟨rfl, ⟨x4, rfl⟩⟩
  clear W1
  go_wp2_with fail
  refine (W2 _ (by (repeat (first | (with_reducible exact SinceOf.refl _) | (with_reducible assumption) | (with_reducible refine SinceOf.alloc ?_ _) | (with_reducible refine SinceOf.drew ?_) | (with_reducible refine SinceOf.drewN ?_ _) | (with_reducible refine SinceOf.later ?_ _) | (with_reducible refine SinceOf.further ?_ _) | (with_reducible refine SinceOf.setCell ?_ (by first | exact Nat.le_refl _ | (simp; done) | omega | (simp; omega)) _))))).mono ?_
  rintro e _ ⟨rfl, ⟨x5, rfl⟩⟩
  clear W2
  go_wp2_with fail
  refine (D1 _ (by (repeat (first | (with_reducible exact SinceOf.refl _) | (with_reducible assumption) | (with_reducible refine SinceOf.alloc ?_ _) | (with_reducible refine SinceOf.drew ?_) | (with_reducible refine SinceOf.drewN ?_ _) | (with_reducible refine SinceOf.later ?_ _) | (with_reducible refine SinceOf.further ?_ _) | (with_reducible refine SinceOf.setCell ?_ (by first | exact Nat.le_refl _ | (simp; done) | omega | (simp; omega)) _))))).mono ?_
  rintro e _ ⟨rfl, ⟨x6, rfl⟩⟩
  clear D1
  go_wp2_with fail
  refine (D2 _ (by (repeat (first | (with_reducible exact SinceOf.refl _) | (with_reducible assumption) | (with_reducible refine SinceOf.alloc ?_ _) | (with_reducible refine SinceOf.drew ?_) | (with_reducible refine SinceOf.drewN ?_ _) | (with_reducible refine SinceOf.later ?_ _) | (with_reducible refine SinceOf.further ?_ _) | (with_reducible refine SinceOf.setCell ?_ (by first | exact Nat.le_refl _ | (simp; done) | omega | (simp; omega)) _))))).mono ?_
  rintro e _ ⟨rfl, ⟨x7, rfl⟩⟩
  clear D2
  go_wp2_with fail
  refine region_later (by kernel_rfl) (by kernel_rfl) ?_
  repeat (go_big_quiet_step ((first | with_reducible refine Gives.later (C1 _ (by (repeat (first | (with_reducible exact SinceOf.refl _) | (with_reducible assumption) | (with_reducible refine SinceOf.alloc ?_ _) | (with_reducible refine SinceOf.drew ?_) | (with_reducible refine SinceOf.drewN ?_ _) | (with_reducible refine SinceOf.later ?_ _) | (with_reducible refine SinceOf.further ?_ _) | (with_reducible refine SinceOf.setCell ?_ (by first | exact Nat.le_refl _ | (simp; done) | omega | (simp; omega)) _))))) | with_reducible refine Gives.later (C2 _ (by (repeat (first | (with_reducible exact SinceOf.refl _) | (with_reducible assumption) | (with_reducible refine SinceOf.alloc ?_ _) | (with_reducible refine SinceOf.drew ?_) | (with_reducible refine SinceOf.drewN ?_ _) | (with_reducible refine SinceOf.later ?_ _) | (with_reducible refine SinceOf.further ?_ _) | (with_reducible refine SinceOf.setCell ?_ (by first | exact Nat.le_refl _ | (simp; done) | omega | (simp; omega)) _))))) | with_reducible refine Gives.later (P1 _ (by (repeat (first | (with_reducible exact SinceOf.refl _) | (with_reducible assumption) | (with_reducible refine SinceOf.alloc ?_ _) | (with_reducible refine SinceOf.drew ?_) | (with_reducible refine SinceOf.drewN ?_ _) | (with_reducible refine SinceOf.later ?_ _) | (with_reducible refine SinceOf.further ?_ _) | (with_reducible refine SinceOf.setCell ?_ (by first | exact Nat.le_refl _ | (simp; done) | omega | (simp; omega)) _))))) | with_reducible refine Gives.later (P2 _ (by (repeat (first | (with_reducible exact SinceOf.refl _) | (with_reducible assumption) | (with_reducible refine SinceOf.alloc ?_ _) | (with_reducible refine SinceOf.drew ?_) | (with_reducible refine SinceOf.drewN ?_ _) | (with_reducible refine SinceOf.later ?_ _) | (with_reducible refine SinceOf.further ?_ _) | (with_reducible refine SinceOf.setCell ?_ (by first | exact Nat.le_refl _ | (simp; done) | omega | (simp; omega)) _))))))))
  refine wpQuiet_nil ?_
  rintro _ ⟨z4, rfl⟩
  clear C1 C2 P1 P2
  go_wp2_with fail
  go_returns
  refine ⟨?_, by (repeat (first | (with_reducible exact SinceOf.refl _) | (with_reducible assumption) | (with_reducible refine SinceOf.alloc ?_ _) | (with_reducible refine SinceOf.drew ?_) | (with_reducible refine SinceOf.drewN ?_ _) | (with_reducible refine SinceOf.later ?_ _) | (with_reducible refine SinceOf.further ?_ _) | (with_reducible refine SinceOf.setCell ?_ (by first | exact Nat.le_refl _ | (simp; done) | omega | (simp; omega)) _)))⟩
  simp
end Go.Proofs.Yticmfmcflikneaa
