/- Layer 15: the walk of MinkowskiAll. -/
import Derived.Test.YtbienlhofkfdpaaMinkA2
namespace Go.Proofs.Ytbienlhofkfdpaa
open Go.RowKit Go.Sort
set_option linter.unusedVariables false
set_option linter.unusedSimpArgs false
attribute [local go_sem ↓] Go.wp_at_zero Go.wp_at_succ

set_option maxRecDepth 100000 in
set_option maxHeartbeats 8000000 in
theorem minkowskiAll_any (A B : Option Addr) (c d : Nat) (X Y : List RgR) (w : World) (h : IsRings w A c X) (h2 : IsRings w B d Y) : Yields Try.prog 4 #[.slice A X.length c, .slice B Y.length d] w (.bool true) := by
  apply Yields.ret
  have b1 := h.len
  have b2 := h2.len
  have H := Lib.hid (And.intro h h2)
  clear h h2
  by_cases f1 : X.length ≤ 4
  case neg =>
    have g1 : decide ((4 : Int) < (X.length : Int)) = true := decide_eq_true (by omega)
    clear f1
    go_enter Try.func4, Try.ntmps4
    go_wp2_with fail
    refine (awake15_any _).mono ?_
    rintro e _ ⟨rfl, x1, rfl⟩
    go_wp2_with fail
    go_returns
    exact ⟨rfl, by (repeat (first | (with_reducible exact SinceOf.refl _) | (with_reducible assumption) | (with_reducible refine SinceOf.alloc ?_ _) | (with_reducible refine SinceOf.drew ?_) | (with_reducible refine SinceOf.drewN ?_ _) | (with_reducible refine SinceOf.later ?_ _) | (with_reducible refine SinceOf.further ?_ _) | (with_reducible refine SinceOf.setCell ?_ (by first | exact Nat.le_refl _ | (simp; done) | omega | (simp; omega)) _)))⟩
  have g1 : decide ((4 : Int) < (X.length : Int)) = false := decide_eq_false (by omega)
  by_cases f2 : Y.length ≤ 4
  case neg =>
    have g2 : decide ((4 : Int) < (Y.length : Int)) = true := decide_eq_true (by omega)
    clear f1 f2
    go_enter Try.func4, Try.ntmps4
    go_wp2_with fail
    refine (awake15_any _).mono ?_
    rintro e _ ⟨rfl, x1, rfl⟩
    go_wp2_with fail
    go_returns
    exact ⟨rfl, by (repeat (first | (with_reducible exact SinceOf.refl _) | (with_reducible assumption) | (with_reducible refine SinceOf.alloc ?_ _) | (with_reducible refine SinceOf.drew ?_) | (with_reducible refine SinceOf.drewN ?_ _) | (with_reducible refine SinceOf.later ?_ _) | (with_reducible refine SinceOf.further ?_ _) | (with_reducible refine SinceOf.setCell ?_ (by first | exact Nat.le_refl _ | (simp; done) | omega | (simp; omega)) _)))⟩
  have g2 : decide ((4 : Int) < (Y.length : Int)) = false := decide_eq_false (by omega)
  have SU := fun W (hW : SinceOf w W) => minkAll_any A B c d X Y W (H.out.1.of hW) (H.out.2.of hW) (by omega) (by omega)
  have RU := fun W (hW : SinceOf w W) => refAll_any A B c d X Y W (H.out.1.of hW) (H.out.2.of hW) (by omega) (by omega)
  go_enter Try.func4, Try.ntmps4
  go_wp2_with fail
  refine (awake15_any _).mono ?_
  rintro e _ ⟨rfl, x1, rfl⟩
  go_wp2_with fail
  clear g1 g2
  go_loopg [5] X.length (fun gas s5 wr => ∃ i : Nat, i ≤ X.length ∧ X.length - i ≤ gas ∧ s5 = .int .i64 i ∧ SinceOf w wr)
  case atStart => exact ⟨0, by omega, by omega, by go_num, by (repeat (first | (with_reducible exact SinceOf.refl _) | (with_reducible assumption) | (with_reducible refine SinceOf.alloc ?_ _) | (with_reducible refine SinceOf.drew ?_) | (with_reducible refine SinceOf.drewN ?_ _) | (with_reducible refine SinceOf.later ?_ _) | (with_reducible refine SinceOf.further ?_ _) | (with_reducible refine SinceOf.setCell ?_ (by first | exact Nat.le_refl _ | (simp; done) | omega | (simp; omega)) _)))⟩
  case round =>
    obtain ⟨i, hi, hgas, rfl, ⟨z, rfl⟩⟩ := hrel
    by_cases hlt : i < X.length
    · have hx0 := H.out.1.of (w' := z.wd) (by (repeat (first | (with_reducible exact SinceOf.refl _) | (with_reducible assumption) | (with_reducible refine SinceOf.alloc ?_ _) | (with_reducible refine SinceOf.drew ?_) | (with_reducible refine SinceOf.drewN ?_ _) | (with_reducible refine SinceOf.later ?_ _) | (with_reducible refine SinceOf.further ?_ _) | (with_reducible refine SinceOf.setCell ?_ (by first | exact Nat.le_refl _ | (simp; done) | omega | (simp; omega)) _))))
      obtain ⟨g, off, rfl, hr⟩ := hx0.row.at_ (by omega)
      have hO := hr.there
      have k0 := hr.g0 i hlt
      have F := few15_any X[i].A X[i].xs.length X[i].c
      generalize X[i] = x at *
      clear hr hx0
      by_cases ff : x.xs.length ≤ 20
      · rw [decide_eq_true ff] at F
        clear ff
        go_wp2_with fail
        refine (F _).calls.mono ?_
        rintro e _ ⟨rfl, x2, rfl⟩
        go_wp2_with fail
        go_roundg (X.length - (i + 1))
        case measure => omega
        case rel => exact ⟨i + 1, hlt, Nat.le_refl _, by go_num, by (repeat (first | (with_reducible exact SinceOf.refl _) | (with_reducible assumption) | (with_reducible refine SinceOf.alloc ?_ _) | (with_reducible refine SinceOf.drew ?_) | (with_reducible refine SinceOf.drewN ?_ _) | (with_reducible refine SinceOf.later ?_ _) | (with_reducible refine SinceOf.further ?_ _) | (with_reducible refine SinceOf.setCell ?_ (by first | exact Nat.le_refl _ | (simp; done) | omega | (simp; omega)) _)))⟩
      · rw [decide_eq_false ff] at F
        clear ff
        go_wp2_with fail
        refine (F _).calls.mono ?_
        rintro e _ ⟨rfl, x2, rfl⟩
        go_wp2_with fail
        go_returns
        exact ⟨rfl, by (repeat (first | (with_reducible exact SinceOf.refl _) | (with_reducible assumption) | (with_reducible refine SinceOf.alloc ?_ _) | (with_reducible refine SinceOf.drew ?_) | (with_reducible refine SinceOf.drewN ?_ _) | (with_reducible refine SinceOf.later ?_ _) | (with_reducible refine SinceOf.further ?_ _) | (with_reducible refine SinceOf.setCell ?_ (by first | exact Nat.le_refl _ | (simp; done) | omega | (simp; omega)) _)))⟩
    · obtain rfl : i = X.length := by omega
      go_wp2_with fail
      go_loopg [6] Y.length (fun gas s6 wr => ∃ i : Nat, i ≤ Y.length ∧ Y.length - i ≤ gas ∧ s6 = .int .i64 i ∧ SinceOf w wr)
      case atStart => exact ⟨0, by omega, by omega, by go_num, by (repeat (first | (with_reducible exact SinceOf.refl _) | (with_reducible assumption) | (with_reducible refine SinceOf.alloc ?_ _) | (with_reducible refine SinceOf.drew ?_) | (with_reducible refine SinceOf.drewN ?_ _) | (with_reducible refine SinceOf.later ?_ _) | (with_reducible refine SinceOf.further ?_ _) | (with_reducible refine SinceOf.setCell ?_ (by first | exact Nat.le_refl _ | (simp; done) | omega | (simp; omega)) _)))⟩
      case round =>
        obtain ⟨i, hi2, hgas2, rfl, ⟨z2, rfl⟩⟩ := hrel
        by_cases hlt2 : i < Y.length
        · have hx0 := H.out.2.of (w' := z2.wd) (by (repeat (first | (with_reducible exact SinceOf.refl _) | (with_reducible assumption) | (with_reducible refine SinceOf.alloc ?_ _) | (with_reducible refine SinceOf.drew ?_) | (with_reducible refine SinceOf.drewN ?_ _) | (with_reducible refine SinceOf.later ?_ _) | (with_reducible refine SinceOf.further ?_ _) | (with_reducible refine SinceOf.setCell ?_ (by first | exact Nat.le_refl _ | (simp; done) | omega | (simp; omega)) _))))
          obtain ⟨g, off, rfl, hr⟩ := hx0.row.at_ (by omega)
          have hO := hr.there
          have k0 := hr.g0 i hlt2
          have F := few15_any Y[i].A Y[i].xs.length Y[i].c
          generalize Y[i] = x at *
          clear hr hx0
          by_cases ff : x.xs.length ≤ 20
          · rw [decide_eq_true ff] at F
            clear ff
            go_wp2_with fail
            refine (F _).calls.mono ?_
            rintro e _ ⟨rfl, x2, rfl⟩
            go_wp2_with fail
            go_roundg (Y.length - (i + 1))
            case measure => omega
            case rel => exact ⟨i + 1, hlt2, Nat.le_refl _, by go_num, by (repeat (first | (with_reducible exact SinceOf.refl _) | (with_reducible assumption) | (with_reducible refine SinceOf.alloc ?_ _) | (with_reducible refine SinceOf.drew ?_) | (with_reducible refine SinceOf.drewN ?_ _) | (with_reducible refine SinceOf.later ?_ _) | (with_reducible refine SinceOf.further ?_ _) | (with_reducible refine SinceOf.setCell ?_ (by first | exact Nat.le_refl _ | (simp; done) | omega | (simp; omega)) _)))⟩
          · rw [decide_eq_false ff] at F
            clear ff
            go_wp2_with fail
            refine (F _).calls.mono ?_
            rintro e _ ⟨rfl, x2, rfl⟩
            go_wp2_with fail
            go_returns
            exact ⟨rfl, by (repeat (first | (with_reducible exact SinceOf.refl _) | (with_reducible assumption) | (with_reducible refine SinceOf.alloc ?_ _) | (with_reducible refine SinceOf.drew ?_) | (with_reducible refine SinceOf.drewN ?_ _) | (with_reducible refine SinceOf.later ?_ _) | (with_reducible refine SinceOf.further ?_ _) | (with_reducible refine SinceOf.setCell ?_ (by first | exact Nat.le_refl _ | (simp; done) | omega | (simp; omega)) _)))⟩
        · obtain rfl : i = Y.length := by omega
          go_wp2_with fail
          refine (SU _ (by (repeat (first | (with_reducible exact SinceOf.refl _) | (with_reducible assumption) | (with_reducible refine SinceOf.alloc ?_ _) | (with_reducible refine SinceOf.drew ?_) | (with_reducible refine SinceOf.drewN ?_ _) | (with_reducible refine SinceOf.later ?_ _) | (with_reducible refine SinceOf.further ?_ _) | (with_reducible refine SinceOf.setCell ?_ (by first | exact Nat.le_refl _ | (simp; done) | omega | (simp; omega)) _))))).mono ?_
          rintro e _ ⟨B1, d1, Z1, e1, rfl, hZ1, hP1, -, -, -, ⟨y1, rfl⟩⟩
          have H1 := Lib.hid (And.intro hZ1 hP1)
          clear hZ1 hP1 SU
          go_wp2_with fail
          refine (RU _ (by (repeat (first | (with_reducible exact SinceOf.refl _) | (with_reducible assumption) | (with_reducible refine SinceOf.alloc ?_ _) | (with_reducible refine SinceOf.drew ?_) | (with_reducible refine SinceOf.drewN ?_ _) | (with_reducible refine SinceOf.later ?_ _) | (with_reducible refine SinceOf.further ?_ _) | (with_reducible refine SinceOf.setCell ?_ (by first | exact Nat.le_refl _ | (simp; done) | omega | (simp; omega)) _))))).mono ?_
          rintro e _ ⟨B2, d2, Z2, e2, rfl, hZ2, hP2, -, -, -, ⟨y2, rfl⟩⟩
          have hu := H1.out.2.unique hP2
          have hv : vxs Z1 = vxs Z2 := congrArg Prod.fst hu
          obtain rfl : e1 = e2 := congrArg Prod.snd hu
          have SM := sameAll_any B1 B2 d1 d2 Z1 Z2 y2.wd (H1.out.1.of (by (repeat (first | (with_reducible exact SinceOf.refl _) | (with_reducible assumption) | (with_reducible refine SinceOf.alloc ?_ _) | (with_reducible refine SinceOf.drew ?_) | (with_reducible refine SinceOf.drewN ?_ _) | (with_reducible refine SinceOf.later ?_ _) | (with_reducible refine SinceOf.further ?_ _) | (with_reducible refine SinceOf.setCell ?_ (by first | exact Nat.le_refl _ | (simp; done) | omega | (simp; omega)) _))))) hZ2
          rw [decide_eq_true hv] at SM
          have ee : (e1 == e1) = true := by simp
          clear hu hv hP2 hZ2 RU
          go_wp2_with fail
          refine SM.calls.mono ?_
          rintro e _ ⟨rfl, y3, rfl⟩
          go_wp2_with fail
          go_returns
          exact ⟨by first | rfl | simp, by (repeat (first | (with_reducible exact SinceOf.refl _) | (with_reducible assumption) | (with_reducible refine SinceOf.alloc ?_ _) | (with_reducible refine SinceOf.drew ?_) | (with_reducible refine SinceOf.drewN ?_ _) | (with_reducible refine SinceOf.later ?_ _) | (with_reducible refine SinceOf.further ?_ _) | (with_reducible refine SinceOf.setCell ?_ (by first | exact Nat.le_refl _ | (simp; done) | omega | (simp; omega)) _)))⟩
end Go.Proofs.Ytbienlhofkfdpaa
