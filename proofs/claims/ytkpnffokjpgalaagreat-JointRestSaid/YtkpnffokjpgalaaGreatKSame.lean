/- The reference's Same of lists of vectors. -/
import Derived.Test.YtkpnffokjpgalaaGreatKRefSorted
namespace Go.Proofs.YtkpnffokjpgalaaGreat
set_option linter.unusedVariables false
set_option linter.unusedSimpArgs false
open Go.RowKit

theorem refSame_any (A B : Option Addr) (c d : Nat) (l m : List (Int × Int)) (w : World) (hl : IsVecs w A c l) (hm : IsVecs w B d m) (hn : l.length < 4611686018427387904) (hn2 : m.length < 4611686018427387904) :
    Gives Tryz.prog 70 #[.slice A l.length c, .slice B m.length d] w (.bool (decide (l = m))) := by
  apply Gives.ret
  by_cases hlen : l.length = m.length
  · have H := Lib.hid (And.intro hl hm)
    clear hl hm
    rw [← hlen]
    go_enter Tryz.func70, Tryz.ntmps70
    go_wp2
    go_loopg [5] l.length (fun n s5 wr => ∃ k : Nat, k ≤ l.length ∧ l.length - k ≤ n ∧ s5 = .int .i64 k ∧ LaterOf w wr ∧ l.take k = m.take k)
    case atStart => exact ⟨0, by omega, by omega, rfl, by (repeat (first | (with_reducible exact LaterOf.refl _) | (with_reducible refine LaterOf.alloc ?_ _) | (with_reducible refine LaterOf.drew ?_) | (with_reducible refine LaterOf.drewN ?_ _) | (with_reducible refine LaterOf.later ?_ _) | (with_reducible refine LaterOf.setCell ?_ (by first | exact Nat.le_refl _ | (simp; done) | omega | (simp; omega)) _))), by simp⟩
    case round =>
      obtain ⟨k, hk, hg, rfl, ⟨z, rfl⟩, heq⟩ := hrel
      have E := Lib.hid heq
      clear heq
      by_cases hlt : k < l.length
      · have hlt2 : k < m.length := by omega
        obtain ⟨g, off, rfl, hr⟩ := (H.out.1.later z).at_ (by omega)
        obtain ⟨g2, off2, rfl, hr2⟩ := (H.out.2.later z).at_ (by omega)
        have hO := hr.there
        have hO2 := hr2.there
        have c0 := hr.v0 k hlt
        have c1 := hr.v1 k hlt
        have d0 := hr2.v0 k hlt2
        have d1 := hr2.v1 k hlt2
        clear hr hr2
        obtain ⟨⟨x, y⟩, hx⟩ : ∃ q, q = l[k] := ⟨_, rfl⟩
        obtain ⟨⟨u, v⟩, hu⟩ : ∃ q, q = m[k] := ⟨_, rfl⟩
        rw [← hx] at c0 c1
        rw [← hu] at d0 d1
        have B := Lib.hid (And.intro hx hu)
        clear hx hu
        simp only at c0 c1 d0 d1
        by_cases hdup : eqv x y u v = true
        · go_wp2_with fail
          refine region_later (by kernel_rfl) (by kernel_rfl) ?_
          repeat (go_big_quiet_step (fail))
          refine wpQuiet_nil ?_
          rintro _ ⟨z2, rfl⟩
          go_wp2_with fail
          go_roundg (l.length - (k + 1))
          case measure => omega
          case rel =>
            refine ⟨k + 1, hlt, Nat.le_refl _, by go_num, by (repeat (first | (with_reducible exact LaterOf.refl _) | (with_reducible refine LaterOf.alloc ?_ _) | (with_reducible refine LaterOf.drew ?_) | (with_reducible refine LaterOf.drewN ?_ _) | (with_reducible refine LaterOf.later ?_ _) | (with_reducible refine LaterOf.setCell ?_ (by first | exact Nat.le_refl _ | (simp; done) | omega | (simp; omega)) _))), ?_⟩
            obtain ⟨rfl, rfl⟩ := eqv_iff.1 hdup
            rw [List.take_succ_eq_append_getElem hlt, List.take_succ_eq_append_getElem hlt2, E.out, ← B.out.1, ← B.out.2]
        · have hne : eqv x y u v = false := by simpa using hdup
          have hno : decide (l = m) = false := by
            rw [decide_eq_false_iff_not]
            rintro rfl
            have := B.out.1.trans B.out.2.symm
            injection this with h1 h2
            rw [h1, h2, eqv_self] at hne
            cases hne
          clear hdup
          have HN := Lib.hid hno
          clear hno
          go_wp2_with fail
          refine region_later (by kernel_rfl) (by kernel_rfl) ?_
          repeat (go_big_quiet_step (fail))
          refine wpQuiet_nil ?_
          rintro _ ⟨z2, rfl⟩
          go_wp2_with fail
          go_returns
          rw [HN.out]
          exact ⟨rfl, by (repeat (first | (with_reducible exact LaterOf.refl _) | (with_reducible refine LaterOf.alloc ?_ _) | (with_reducible refine LaterOf.drew ?_) | (with_reducible refine LaterOf.drewN ?_ _) | (with_reducible refine LaterOf.later ?_ _) | (with_reducible refine LaterOf.setCell ?_ (by first | exact Nat.le_refl _ | (simp; done) | omega | (simp; omega)) _)))⟩
      · have hkl : k = l.length := by omega
        have hyes : decide (l = m) = true := by
          have e := E.out
          rw [hkl, List.take_length, hlen, List.take_length] at e
          simpa using e
        have HY := Lib.hid hyes
        clear hyes
        go_wp2_with fail
        go_returns
        rw [HY.out]
        exact ⟨rfl, by (repeat (first | (with_reducible exact LaterOf.refl _) | (with_reducible refine LaterOf.alloc ?_ _) | (with_reducible refine LaterOf.drew ?_) | (with_reducible refine LaterOf.drewN ?_ _) | (with_reducible refine LaterOf.later ?_ _) | (with_reducible refine LaterOf.setCell ?_ (by first | exact Nat.le_refl _ | (simp; done) | omega | (simp; omega)) _)))⟩
  · have hno : decide (l = m) = false := by
      rw [decide_eq_false_iff_not]; rintro rfl; exact hlen rfl
    rw [hno]
    clear hl hm hno
    go_enter Tryz.func70, Tryz.ntmps70
    go_wp2
    go_returns
    exact ⟨rfl, by (repeat (first | (with_reducible exact LaterOf.refl _) | (with_reducible refine LaterOf.alloc ?_ _) | (with_reducible refine LaterOf.drew ?_) | (with_reducible refine LaterOf.drewN ?_ _) | (with_reducible refine LaterOf.later ?_ _) | (with_reducible refine LaterOf.setCell ?_ (by first | exact Nat.le_refl _ | (simp; done) | omega | (simp; omega)) _)))⟩

end Go.Proofs.YtkpnffokjpgalaaGreat
