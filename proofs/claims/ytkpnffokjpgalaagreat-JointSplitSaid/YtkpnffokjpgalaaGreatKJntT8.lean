/- The law JointSplit, walked. -/
import Derived.Test.YtkpnffokjpgalaaGreatKJntT7
import Derived.Test.YtkpnffokjpgalaaGreatKJnt31
import Derived.Test.YtkpnffokjpgalaaGreatKSame
namespace Go.Proofs.YtkpnffokjpgalaaGreat
set_option linter.unusedVariables false
set_option linter.unusedSimpArgs false
open Go.RowKit Go.Sort
attribute [local go_sem ↓] Go.wp_at_zero Go.wp_at_succ

theorem vxs_next {X : List RgR} {i : Nat} (h : i < X.length) : (vxs X).take (i + 1) = (vxs X).take i ++ [X[i].xs] := by
  rw [List.take_succ_eq_append_getElem (by rw [vxs_len]; exact h), vxs_at h]
set_option maxRecDepth 100000 in
set_option maxHeartbeats 8000000 in
theorem samePaths_any (A B : Option Addr) (c d : Nat) (X Y : List RgR) (w : World) (h : IsRings w A c X) (h2 : IsRings w B d Y) :
    Gives Tryz.prog 27 #[.slice A X.length c, .slice B Y.length d] w (.bool (decide (vxs X = vxs Y))) := by
  apply Gives.ret
  have HH := Lib.hid (And.intro h h2)
  have hb := h.len
  clear h h2
  by_cases hlen : X.length = Y.length
  · rw [← hlen]
    obtain ⟨res, hres⟩ : ∃ res, res = decide (vxs X = vxs Y) := ⟨_, rfl⟩
    rw [← hres]
    have HR := Lib.hid hres
    clear hres
    go_enter Tryz.func27, Tryz.ntmps27
    go_wp2_with fail
    go_loopg [5] X.length (fun gas s5 wr => ∃ i : Nat, i ≤ X.length ∧ X.length - i ≤ gas ∧ s5 = .int .i64 i ∧ LaterOf w wr ∧ (vxs X).take i = (vxs Y).take i)
    case atStart => exact ⟨0, by omega, by omega, by go_num, by (repeat (first | (with_reducible exact LaterOf.refl _) | (with_reducible refine LaterOf.alloc ?_ _) | (with_reducible refine LaterOf.drew ?_) | (with_reducible refine LaterOf.drewN ?_ _) | (with_reducible refine LaterOf.later ?_ _) | (with_reducible refine LaterOf.setCell ?_ (by first | exact Nat.le_refl _ | (simp; done) | omega | (simp; omega)) _))), rfl⟩
    case round =>
      obtain ⟨i, hi, hgas, rfl, ⟨z, rfl⟩, heq⟩ := hrel
      by_cases hlt : i < X.length
      · have hlt2 : i < Y.length := by omega
        have hx0 := HH.out.1.of (w' := z.wd) (LaterOf.since ⟨z, rfl⟩)
        obtain ⟨g, off, rfl, hr⟩ := hx0.row.at_ (by omega)
        have hO := hr.there
        have k0 := hr.g0 i hlt
        have hy0 := HH.out.2.of (w' := z.wd) (LaterOf.since ⟨z, rfl⟩)
        obtain ⟨g3, off3, rfl, hr3⟩ := hy0.row.at_ (by omega)
        have hO3 := hr3.there
        have m0 := hr3.g0 i hlt2
        have hrx : IsRing z.wd X[i] := hx0.all _ (List.getElem_mem hlt)
        have hry : IsRing z.wd Y[i] := hy0.all _ (List.getElem_mem hlt2)
        have t1 := vxs_next hlt
        have t2 := vxs_next hlt2
        obtain ⟨x, hx⟩ : ∃ x, x = X[i] := ⟨_, rfl⟩
        obtain ⟨y, hy⟩ : ∃ y, y = Y[i] := ⟨_, rfl⟩
        rw [← hx] at k0 hrx t1
        rw [← hy] at m0 hry t2
        have SM := fun W (hW : SinceOf z.wd W) => refSame_any x.A y.A x.c y.c x.xs y.xs W (hrx.of hW).row (hry.of hW).row hrx.len hry.len
        have HT := Lib.hid (And.intro heq (And.intro t1 t2))
        obtain ⟨bv, hbv⟩ : ∃ bv, bv = decide (x.xs = y.xs) := ⟨_, rfl⟩
        rw [← hbv] at SM
        have HB := Lib.hid hbv
        clear heq t1 t2 hbv hrx hry hx hy hr hr3 hx0 hy0
        go_upto_region 6 with fail
        go_cut [26] (fun s26 wx => s26 = .bool (!bv) ∧ LaterOf z.wd wx)
        case first =>
          refine region_later (by kernel_rfl) (by kernel_rfl) ?_
          repeat (go_big_quiet_step ((with_reducible refine Gives.later (SM _ (by (repeat (first | (with_reducible exact SinceOf.refl _) | (with_reducible assumption) | (with_reducible refine SinceOf.alloc ?_ _) | (with_reducible refine SinceOf.drew ?_) | (with_reducible refine SinceOf.drewN ?_ _) | (with_reducible refine SinceOf.later ?_ _) | (with_reducible refine SinceOf.further ?_ _) | (with_reducible refine SinceOf.setCell ?_ (by first | exact Nat.le_refl _ | (simp; done) | omega | (simp; omega)) _))))))))
          refine wpQuiet_nil ?_
          rintro _ ⟨z4, rfl⟩
          go_wp2_with fail
          go_meet
          exact ⟨rfl, by (repeat (first | (with_reducible exact LaterOf.refl _) | (with_reducible refine LaterOf.alloc ?_ _) | (with_reducible refine LaterOf.drew ?_) | (with_reducible refine LaterOf.drewN ?_ _) | (with_reducible refine LaterOf.later ?_ _) | (with_reducible refine LaterOf.setCell ?_ (by first | exact Nat.le_refl _ | (simp; done) | omega | (simp; omega)) _)))⟩
        case rest =>
          obtain ⟨rfl, ⟨z4, rfl⟩⟩ := hcut
          clear SM k0 m0
          cases bv
          · have hno : res = false := by
              have q := of_decide_eq_false HB.out.symm
              rw [HR.out, decide_eq_false_iff_not]
              intro e
              have q1 := HT.out.2.1
              rw [e, HT.out.2.2] at q1
              exact q (by simpa using (List.append_inj_right' q1 rfl).symm)
            subst hno
            clear HR
            go_wp2_with fail
            go_returns
            exact ⟨rfl, by (repeat (first | (with_reducible exact LaterOf.refl _) | (with_reducible refine LaterOf.alloc ?_ _) | (with_reducible refine LaterOf.drew ?_) | (with_reducible refine LaterOf.drewN ?_ _) | (with_reducible refine LaterOf.later ?_ _) | (with_reducible refine LaterOf.setCell ?_ (by first | exact Nat.le_refl _ | (simp; done) | omega | (simp; omega)) _)))⟩
          · have hyes := of_decide_eq_true HB.out.symm
            have hnx : (vxs X).take (i + 1) = (vxs Y).take (i + 1) := by rw [HT.out.2.1, HT.out.2.2, HT.out.1, hyes]
            have HN := Lib.hid hnx
            clear hnx hyes
            go_wp2_with fail
            go_roundg (X.length - (i + 1))
            case measure => omega
            case rel => exact ⟨i + 1, hlt, Nat.le_refl _, by go_num, by (repeat (first | (with_reducible exact LaterOf.refl _) | (with_reducible refine LaterOf.alloc ?_ _) | (with_reducible refine LaterOf.drew ?_) | (with_reducible refine LaterOf.drewN ?_ _) | (with_reducible refine LaterOf.later ?_ _) | (with_reducible refine LaterOf.setCell ?_ (by first | exact Nat.le_refl _ | (simp; done) | omega | (simp; omega)) _))), HN.out⟩
      · obtain rfl : i = X.length := by omega
        have hyes : res = true := by
          rw [List.take_of_length_le (by rw [vxs_len]; exact Nat.le_refl _), List.take_of_length_le (by rw [vxs_len]; omega)] at heq
          rw [HR.out, decide_eq_true_iff]; exact heq
        subst hyes
        clear HR heq
        go_wp2_with fail
        go_returns
        exact ⟨rfl, by (repeat (first | (with_reducible exact LaterOf.refl _) | (with_reducible refine LaterOf.alloc ?_ _) | (with_reducible refine LaterOf.drew ?_) | (with_reducible refine LaterOf.drewN ?_ _) | (with_reducible refine LaterOf.later ?_ _) | (with_reducible refine LaterOf.setCell ?_ (by first | exact Nat.le_refl _ | (simp; done) | omega | (simp; omega)) _)))⟩
  · have g0 : ((X.length : Int) != (Y.length : Int)) = true := by simp; omega
    have hne : vxs X ≠ vxs Y := fun e => hlen (by have := congrArg List.length e; rw [vxs_len, vxs_len] at this; exact this)
    rw [decide_eq_false hne]
    clear hne
    go_enter Tryz.func27, Tryz.ntmps27
    go_wp2_with fail
    go_returns
    exact ⟨rfl, by (repeat (first | (with_reducible exact LaterOf.refl _) | (with_reducible refine LaterOf.alloc ?_ _) | (with_reducible refine LaterOf.drew ?_) | (with_reducible refine LaterOf.drewN ?_ _) | (with_reducible refine LaterOf.later ?_ _) | (with_reducible refine LaterOf.setCell ?_ (by first | exact Nat.le_refl _ | (simp; done) | omega | (simp; omega)) _)))⟩
set_option maxRecDepth 100000 in
set_option maxHeartbeats 16000000 in
theorem jointSplit_any (A : Option Addr) (c : Nat) (r : List (Int × Int)) (at_ : Int) (gA : Option Addr) (gc : Nat) (G : List SegP) (w : World) (h : IsVecs w A c r) (hlen : r.length < 4611686018427387904) (hG : IsSegs w gA gc G) (hGl : G.length < 4611686018427387904) :
    Yields Tryz.prog 6 #[.slice A r.length c, .int .i64 at_, .slice gA G.length gc] w (.bool true) := by
  apply Yields.ret
  have AW := awake46_any
  have FW := few_any A c r
  generalize decide (r.length ≤ 60) = fw at FW
  by_cases h12 : G.length ≤ 12
  · have g12 : decide ((12 : Int) < (G.length : Int)) = false := decide_eq_false (by omega)
    have SP := fun W (hW : SinceOf w W) => split_any A c r at_ gA gc G W (h.of hW) hlen (hG.of hW) h12
    have SR := fun W (hW : SinceOf w W) => refSplit_any A c r at_ gA gc G W (h.of hW) hlen (hG.of hW) h12
    generalize splitR r at_ G = res at SP SR
    clear h hG
    go_enter Tryz.func6, Tryz.ntmps6
    go_wp2_with fail
    refine (AW _).calls.mono ?_
    rintro e _ ⟨rfl, x1, rfl⟩
    clear AW
    go_wp2_with fail
    refine (FW _).calls.mono ?_
    rintro e _ ⟨rfl, x2, rfl⟩
    clear FW
    cases fw
    · go_wp2_with fail
      go_returns
      exact ⟨rfl, by (repeat (first | (with_reducible exact SinceOf.refl _) | (with_reducible assumption) | (with_reducible refine SinceOf.alloc ?_ _) | (with_reducible refine SinceOf.drew ?_) | (with_reducible refine SinceOf.drewN ?_ _) | (with_reducible refine SinceOf.later ?_ _) | (with_reducible refine SinceOf.further ?_ _) | (with_reducible refine SinceOf.setCell ?_ (by first | exact Nat.le_refl _ | (simp; done) | omega | (simp; omega)) _)))⟩
    · go_wp2_with fail
      refine (SP _ (by (repeat (first | (with_reducible exact SinceOf.refl _) | (with_reducible assumption) | (with_reducible refine SinceOf.alloc ?_ _) | (with_reducible refine SinceOf.drew ?_) | (with_reducible refine SinceOf.drewN ?_ _) | (with_reducible refine SinceOf.later ?_ _) | (with_reducible refine SinceOf.further ?_ _) | (with_reducible refine SinceOf.setCell ?_ (by first | exact Nat.le_refl _ | (simp; done) | omega | (simp; omega)) _))))).mono ?_
      rintro e _ ⟨⟨x3, rfl⟩, A1, c1, Y1, rfl, v1, r1⟩
      clear SP
      have H1 := Lib.hid (And.intro v1 r1)
      clear v1 r1
      go_wp2_with fail
      refine (SR _ (by (repeat (first | (with_reducible exact SinceOf.refl _) | (with_reducible assumption) | (with_reducible refine SinceOf.alloc ?_ _) | (with_reducible refine SinceOf.drew ?_) | (with_reducible refine SinceOf.drewN ?_ _) | (with_reducible refine SinceOf.later ?_ _) | (with_reducible refine SinceOf.further ?_ _) | (with_reducible refine SinceOf.setCell ?_ (by first | exact Nat.le_refl _ | (simp; done) | omega | (simp; omega)) _))))).mono ?_
      rintro e _ ⟨⟨x4, rfl⟩, A2, c2, Y2, rfl, v2, r2⟩
      clear SR
      have H2 := Lib.hid (And.intro v2 r2)
      clear v2 r2
      have SS := fun W (hW : SinceOf x4.wd W) => samePaths_any A1 A2 c1 c2 Y1 Y2 W (H1.out.2.of (SinceOf.trans (show SinceOf x3.wd x4.wd by (repeat (first | (with_reducible exact SinceOf.refl _) | (with_reducible assumption) | (with_reducible refine SinceOf.alloc ?_ _) | (with_reducible refine SinceOf.drew ?_) | (with_reducible refine SinceOf.drewN ?_ _) | (with_reducible refine SinceOf.later ?_ _) | (with_reducible refine SinceOf.further ?_ _) | (with_reducible refine SinceOf.setCell ?_ (by first | exact Nat.le_refl _ | (simp; done) | omega | (simp; omega)) _)))) hW)) (H2.out.2.of hW)
      rw [H1.out.1, H2.out.1, decide_eq_true rfl] at SS
      go_wp2_with fail
      refine (SS _ (by (repeat (first | (with_reducible exact SinceOf.refl _) | (with_reducible assumption) | (with_reducible refine SinceOf.alloc ?_ _) | (with_reducible refine SinceOf.drew ?_) | (with_reducible refine SinceOf.drewN ?_ _) | (with_reducible refine SinceOf.later ?_ _) | (with_reducible refine SinceOf.further ?_ _) | (with_reducible refine SinceOf.setCell ?_ (by first | exact Nat.le_refl _ | (simp; done) | omega | (simp; omega)) _))))).yields.calls.mono ?_
      rintro e _ ⟨rfl, x5, rfl⟩
      clear SS
      go_wp2_with fail
      go_returns
      exact ⟨by simp, by (repeat (first | (with_reducible exact SinceOf.refl _) | (with_reducible assumption) | (with_reducible refine SinceOf.alloc ?_ _) | (with_reducible refine SinceOf.drew ?_) | (with_reducible refine SinceOf.drewN ?_ _) | (with_reducible refine SinceOf.later ?_ _) | (with_reducible refine SinceOf.further ?_ _) | (with_reducible refine SinceOf.setCell ?_ (by first | exact Nat.le_refl _ | (simp; done) | omega | (simp; omega)) _)))⟩
  · have g12 : decide ((12 : Int) < (G.length : Int)) = true := decide_eq_true (by omega)
    clear h hG
    go_enter Tryz.func6, Tryz.ntmps6
    go_wp2_with fail
    refine (AW _).calls.mono ?_
    rintro e _ ⟨rfl, x1, rfl⟩
    clear AW
    go_wp2_with fail
    refine (FW _).calls.mono ?_
    rintro e _ ⟨rfl, x2, rfl⟩
    clear FW
    cases fw <;>
    · go_wp2_with fail
      go_returns
      exact ⟨rfl, by (repeat (first | (with_reducible exact SinceOf.refl _) | (with_reducible assumption) | (with_reducible refine SinceOf.alloc ?_ _) | (with_reducible refine SinceOf.drew ?_) | (with_reducible refine SinceOf.drewN ?_ _) | (with_reducible refine SinceOf.later ?_ _) | (with_reducible refine SinceOf.further ?_ _) | (with_reducible refine SinceOf.setCell ?_ (by first | exact Nat.le_refl _ | (simp; done) | omega | (simp; omega)) _)))⟩
end Go.Proofs.YtkpnffokjpgalaaGreat
