/- Layer 18: the walks of OffsetOctagon, OffsetGrow, OffsetApart, OffsetGap. -/
import Derived.Test.YticmfmcflikneaaOff10
namespace Go.Proofs.Yticmfmcflikneaa
open Go.RowKit Go.Sort
set_option linter.unusedVariables false
set_option linter.unusedSimpArgs false
attribute [local go_sem ↓] Go.wp_at_zero Go.wp_at_succ

theorem octRes_len {k : Int} {r : List Pt} {e : Int} (h : OctRes k r e) : r.length ≤ 8 := by
  rcases h with ⟨-, rfl, -⟩ | ⟨-, -, -, -, h⟩
  · simp
  · exact h
set_option maxRecDepth 100000 in
set_option maxHeartbeats 4000000 in
theorem offsetOctagon_any (k : Int) (w : World) : Yields Try.prog 10 #[.int .i64 k] w (.bool true) := by
  apply Yields.ret
  go_enter Try.func10, Try.ntmps10
  go_wp2_with fail
  refine (awake18_any _).calls.mono ?_
  rintro e _ ⟨rfl, x1, rfl⟩
  go_wp2_with fail
  refine (octagon_any k _).mono ?_
  rintro e _ ⟨A1, c1, r, err, rfl, hv, hres, ⟨x2, rfl⟩⟩
  have HV := Lib.hid (And.intro hv hres)
  clear hv hres
  go_wp2_with fail
  refine (refOctagon_any k _).mono ?_
  rintro e _ ⟨A2, c2, r2, err2, rfl, hv2, hres2, ⟨x3, rfl⟩⟩
  obtain ⟨rfl, rfl⟩ := HV.out.2.unique hres2
  have hl := octRes_len hres2
  have S := fun W (hW : SinceOf x3.wd W) => refSame_any A1 A2 c1 c2 r r W (HV.out.1.of (SinceOf.trans ⟨x3, rfl⟩ hW)) (hv2.of hW) (by omega) (by omega)
  rw [decide_eq_true (rfl : r = r)] at S
  have g1 : (err == err) = true := by simp
  clear hv2 hres2
  go_wp2_with fail
  refine (S _ (by (repeat (first | (with_reducible exact SinceOf.refl _) | (with_reducible assumption) | (with_reducible refine SinceOf.alloc ?_ _) | (with_reducible refine SinceOf.drew ?_) | (with_reducible refine SinceOf.drewN ?_ _) | (with_reducible refine SinceOf.later ?_ _) | (with_reducible refine SinceOf.further ?_ _) | (with_reducible refine SinceOf.setCell ?_ (by first | exact Nat.le_refl _ | (simp; done) | omega | (simp; omega)) _))))).calls.mono ?_
  rintro e _ ⟨rfl, x4, rfl⟩
  go_wp2_with fail
  go_returns
  exact ⟨rfl, by (repeat (first | (with_reducible exact SinceOf.refl _) | (with_reducible assumption) | (with_reducible refine SinceOf.alloc ?_ _) | (with_reducible refine SinceOf.drew ?_) | (with_reducible refine SinceOf.drewN ?_ _) | (with_reducible refine SinceOf.later ?_ _) | (with_reducible refine SinceOf.further ?_ _) | (with_reducible refine SinceOf.setCell ?_ (by first | exact Nat.le_refl _ | (simp; done) | omega | (simp; omega)) _)))⟩
theorem fewB_len {n : Int} {L : List (List Pt)} (h : fewB n L = true) : L.length ≤ 4 ∧ ∀ r ∈ L, (r.length : Int) ≤ n := by
  unfold fewB at h
  rw [Bool.and_eq_true] at h
  refine ⟨by simpa using h.2, fun r hr => ?_⟩
  have := List.all_eq_true.1 h.1 r hr
  simpa using this
set_option maxRecDepth 100000 in
set_option maxHeartbeats 16000000 in
theorem offsetGrow_any (A : Option Addr) (c : Nat) (X : List RgR) (k : Int) (w : World) (h : IsRings w A c X) : Yields Try.prog 16 #[.slice A X.length c, .int .i64 k] w (.bool true) := by
  apply Yields.ret
  have H := Lib.hid h
  have hXl := h.len
  clear h
  have F := fun W (hW : SinceOf w W) => few18_any A c X 12 W (H.out.of hW)
  cases hf : fewB 12 (vxs X)
  · rw [hf] at F
    clear hf
    go_enter Try.func16, Try.ntmps16
    go_wp2_with fail
    refine (awake18_any _).calls.mono ?_
    rintro e _ ⟨rfl, x1, rfl⟩
    go_wp2_with fail
    refine (F _ (by (repeat (first | (with_reducible exact SinceOf.refl _) | (with_reducible assumption) | (with_reducible refine SinceOf.alloc ?_ _) | (with_reducible refine SinceOf.drew ?_) | (with_reducible refine SinceOf.drewN ?_ _) | (with_reducible refine SinceOf.later ?_ _) | (with_reducible refine SinceOf.further ?_ _) | (with_reducible refine SinceOf.setCell ?_ (by first | exact Nat.le_refl _ | (simp; done) | omega | (simp; omega)) _))))).calls.mono ?_
    rintro e _ ⟨rfl, x2, rfl⟩
    go_wp2_with fail
    go_returns
    exact ⟨rfl, by (repeat (first | (with_reducible exact SinceOf.refl _) | (with_reducible assumption) | (with_reducible refine SinceOf.alloc ?_ _) | (with_reducible refine SinceOf.drew ?_) | (with_reducible refine SinceOf.drewN ?_ _) | (with_reducible refine SinceOf.later ?_ _) | (with_reducible refine SinceOf.further ?_ _) | (with_reducible refine SinceOf.setCell ?_ (by first | exact Nat.le_refl _ | (simp; done) | omega | (simp; omega)) _)))⟩
  · rw [hf] at F
    have hl := (fewB_len hf).1
    rw [vxs_len] at hl
    clear hf
    go_enter Try.func16, Try.ntmps16
    go_wp2_with fail
    refine (awake18_any _).calls.mono ?_
    rintro e _ ⟨rfl, x1, rfl⟩
    go_wp2_with fail
    refine (F _ (by (repeat (first | (with_reducible exact SinceOf.refl _) | (with_reducible assumption) | (with_reducible refine SinceOf.alloc ?_ _) | (with_reducible refine SinceOf.drew ?_) | (with_reducible refine SinceOf.drewN ?_ _) | (with_reducible refine SinceOf.later ?_ _) | (with_reducible refine SinceOf.further ?_ _) | (with_reducible refine SinceOf.setCell ?_ (by first | exact Nat.le_refl _ | (simp; done) | omega | (simp; omega)) _))))).calls.mono ?_
    rintro e _ ⟨rfl, x2, rfl⟩
    clear F
    go_wp2_with fail
    refine (grow_any A c X k _ (H.out.of (by (repeat (first | (with_reducible exact SinceOf.refl _) | (with_reducible assumption) | (with_reducible refine SinceOf.alloc ?_ _) | (with_reducible refine SinceOf.drew ?_) | (with_reducible refine SinceOf.drewN ?_ _) | (with_reducible refine SinceOf.later ?_ _) | (with_reducible refine SinceOf.further ?_ _) | (with_reducible refine SinceOf.setCell ?_ (by first | exact Nat.le_refl _ | (simp; done) | omega | (simp; omega)) _))))) (by omega)).mono ?_
    rintro e _ ⟨A1, c1, Y, err, rfl, hY, hgv, ⟨x3, rfl⟩⟩
    have HY := Lib.hid (And.intro hY hgv)
    clear hY hgv
    go_wp2_with fail
    refine (refGrow_any A c X k _ (H.out.of (by (repeat (first | (with_reducible exact SinceOf.refl _) | (with_reducible assumption) | (with_reducible refine SinceOf.alloc ?_ _) | (with_reducible refine SinceOf.drew ?_) | (with_reducible refine SinceOf.drewN ?_ _) | (with_reducible refine SinceOf.later ?_ _) | (with_reducible refine SinceOf.further ?_ _) | (with_reducible refine SinceOf.setCell ?_ (by first | exact Nat.le_refl _ | (simp; done) | omega | (simp; omega)) _))))) (by omega)).mono ?_
    rintro e _ ⟨A2, c2, Z, err2, rfl, hZ, hgv2, ⟨x4, rfl⟩⟩
    have hgg := HY.out.2.symm.trans hgv2
    injection hgg with hg1 hg2
    subst hg2
    have S := fun W (hW : SinceOf x4.wd W) => sameRings_any A1 A2 c1 c2 Y Z W (HY.out.1.of (SinceOf.trans ⟨x4, rfl⟩ hW)) (hZ.of hW)
    rw [decide_eq_true hg1] at S
    have g1 : (err != err) = false := by simp
    clear hZ hgv2 hg1
    go_wp2_with fail
    refine (S _ (by (repeat (first | (with_reducible exact SinceOf.refl _) | (with_reducible assumption) | (with_reducible refine SinceOf.alloc ?_ _) | (with_reducible refine SinceOf.drew ?_) | (with_reducible refine SinceOf.drewN ?_ _) | (with_reducible refine SinceOf.later ?_ _) | (with_reducible refine SinceOf.further ?_ _) | (with_reducible refine SinceOf.setCell ?_ (by first | exact Nat.le_refl _ | (simp; done) | omega | (simp; omega)) _))))).calls.mono ?_
    rintro e _ ⟨rfl, x5, rfl⟩
    clear S
    go_wp2_with fail
    go_loopg [9] X.length (fun gas s9 wr => ∃ i : Nat, i ≤ X.length ∧ X.length - i ≤ gas ∧ s9 = .int .i64 i ∧ SinceOf w wr)
    case atStart => exact ⟨0, by omega, by omega, rfl, by (repeat (first | (with_reducible exact SinceOf.refl _) | (with_reducible assumption) | (with_reducible refine SinceOf.alloc ?_ _) | (with_reducible refine SinceOf.drew ?_) | (with_reducible refine SinceOf.drewN ?_ _) | (with_reducible refine SinceOf.later ?_ _) | (with_reducible refine SinceOf.further ?_ _) | (with_reducible refine SinceOf.setCell ?_ (by first | exact Nat.le_refl _ | (simp; done) | omega | (simp; omega)) _)))⟩
    case round =>
      obtain ⟨i, hi, hgas, rfl, ⟨z, rfl⟩⟩ := hrel
      by_cases hlt : i < X.length
      · have hX := H.out.of (w' := z.wd) (by (repeat (first | (with_reducible exact SinceOf.refl _) | (with_reducible assumption) | (with_reducible refine SinceOf.alloc ?_ _) | (with_reducible refine SinceOf.drew ?_) | (with_reducible refine SinceOf.drewN ?_ _) | (with_reducible refine SinceOf.later ?_ _) | (with_reducible refine SinceOf.further ?_ _) | (with_reducible refine SinceOf.setCell ?_ (by first | exact Nat.le_refl _ | (simp; done) | omega | (simp; omega)) _))))
        have hx := hX.all _ (List.getElem_mem hlt)
        have h0 : 0 < X.length := by omega
        have hy := hX.all _ (List.getElem_mem h0)
        obtain ⟨g, off, rfl, hr⟩ := hX.row.at_ (by omega)
        have hO := hr.there
        have k0 := hr.g0 i hlt
        have k1 := hr.g0 0 h0
        have O1 := fun W (hW : SinceOf z.wd W) => overlap_any X[0].A X[i].A X[0].c X[i].c X[0].xs X[i].xs W (hy.1.of hW) (hx.1.of hW) hy.2 hx.2
        have O2 := fun W (hW : SinceOf z.wd W) => refOverlap_any X[0].A X[i].A X[0].c X[i].c X[0].xs X[i].xs W (hy.1.of hW) (hx.1.of hW) hy.2 hx.2
        generalize overlapR X[0].xs X[i].xs = ov at *
        obtain ⟨o1, o2⟩ := ov
        simp only at O1 O2
        rw [Nat.add_zero] at k1
        clear hx hy hr hX
        generalize X[0] = xx at *
        generalize X[i] = yy at *
        have g2 : (o1 != o1) = false := by simp
        have g3 : (o2 != o2) = false := by simp
        go_wp2_with fail
        refine region_later (by kernel_rfl) (by kernel_rfl) ?_
        repeat (go_big_quiet_step ((with_reducible refine Gives.later (O1 _ (by (repeat (first | (with_reducible exact SinceOf.refl _) | (with_reducible assumption) | (with_reducible refine SinceOf.alloc ?_ _) | (with_reducible refine SinceOf.drew ?_) | (with_reducible refine SinceOf.drewN ?_ _) | (with_reducible refine SinceOf.later ?_ _) | (with_reducible refine SinceOf.further ?_ _) | (with_reducible refine SinceOf.setCell ?_ (by first | exact Nat.le_refl _ | (simp; done) | omega | (simp; omega)) _))))))))
        refine wpQuiet_nil ?_
        rintro _ ⟨z4, rfl⟩
        clear O1
        go_wp2_with fail
        refine region_later (by kernel_rfl) (by kernel_rfl) ?_
        repeat (go_big_quiet_step ((with_reducible refine Gives.later (O2 _ (by (repeat (first | (with_reducible exact SinceOf.refl _) | (with_reducible assumption) | (with_reducible refine SinceOf.alloc ?_ _) | (with_reducible refine SinceOf.drew ?_) | (with_reducible refine SinceOf.drewN ?_ _) | (with_reducible refine SinceOf.later ?_ _) | (with_reducible refine SinceOf.further ?_ _) | (with_reducible refine SinceOf.setCell ?_ (by first | exact Nat.le_refl _ | (simp; done) | omega | (simp; omega)) _))))))))
        refine wpQuiet_nil ?_
        rintro _ ⟨z5, rfl⟩
        clear O2
        go_wp2_with fail
        go_roundg (X.length - (i + 1))
        case measure => omega
        case rel => exact ⟨i + 1, hlt, Nat.le_refl _, by go_num, by (repeat (first | (with_reducible exact SinceOf.refl _) | (with_reducible assumption) | (with_reducible refine SinceOf.alloc ?_ _) | (with_reducible refine SinceOf.drew ?_) | (with_reducible refine SinceOf.drewN ?_ _) | (with_reducible refine SinceOf.later ?_ _) | (with_reducible refine SinceOf.further ?_ _) | (with_reducible refine SinceOf.setCell ?_ (by first | exact Nat.le_refl _ | (simp; done) | omega | (simp; omega)) _)))⟩
      · obtain rfl : i = X.length := by omega
        go_wp2_with fail
        go_returns
        exact ⟨rfl, by (repeat (first | (with_reducible exact SinceOf.refl _) | (with_reducible assumption) | (with_reducible refine SinceOf.alloc ?_ _) | (with_reducible refine SinceOf.drew ?_) | (with_reducible refine SinceOf.drewN ?_ _) | (with_reducible refine SinceOf.later ?_ _) | (with_reducible refine SinceOf.further ?_ _) | (with_reducible refine SinceOf.setCell ?_ (by first | exact Nat.le_refl _ | (simp; done) | omega | (simp; omega)) _)))⟩
set_option maxRecDepth 100000 in
set_option maxHeartbeats 16000000 in
theorem offsetApart_any (A B : Option Addr) (c d : Nat) (X Z : List RgR) (k : Int) (w : World) (h : IsRings w A c X) (hz : IsRings w B d Z) : Yields Try.prog 11 #[.slice A X.length c, .slice B Z.length d, .int .i64 k] w (.bool true) := by
  apply Yields.ret
  have H := Lib.hid (And.intro h hz)
  clear h hz
  have F1 := fun W (hW : SinceOf w W) => few18_any A c X 10 W (H.out.1.of hW)
  have F2 := fun W (hW : SinceOf w W) => few18_any B d Z 10 W (H.out.2.of hW)
  cases hf : fewB 10 (vxs X)
  · rw [hf] at F1
    clear hf F2
    go_enter Try.func11, Try.ntmps11
    go_wp2_with fail
    refine (awake18_any _).calls.mono ?_
    rintro e _ ⟨rfl, x1, rfl⟩
    go_wp2_with fail
    refine (F1 _ (by (repeat (first | (with_reducible exact SinceOf.refl _) | (with_reducible assumption) | (with_reducible refine SinceOf.alloc ?_ _) | (with_reducible refine SinceOf.drew ?_) | (with_reducible refine SinceOf.drewN ?_ _) | (with_reducible refine SinceOf.later ?_ _) | (with_reducible refine SinceOf.further ?_ _) | (with_reducible refine SinceOf.setCell ?_ (by first | exact Nat.le_refl _ | (simp; done) | omega | (simp; omega)) _))))).calls.mono ?_
    rintro e _ ⟨rfl, x2, rfl⟩
    go_wp2_with fail
    go_returns
    exact ⟨rfl, by (repeat (first | (with_reducible exact SinceOf.refl _) | (with_reducible assumption) | (with_reducible refine SinceOf.alloc ?_ _) | (with_reducible refine SinceOf.drew ?_) | (with_reducible refine SinceOf.drewN ?_ _) | (with_reducible refine SinceOf.later ?_ _) | (with_reducible refine SinceOf.further ?_ _) | (with_reducible refine SinceOf.setCell ?_ (by first | exact Nat.le_refl _ | (simp; done) | omega | (simp; omega)) _)))⟩
  rw [hf] at F1
  have hl := (fewB_len hf).1
  rw [vxs_len] at hl
  clear hf
  cases hf : fewB 10 (vxs Z)
  · rw [hf] at F2
    clear hf
    go_enter Try.func11, Try.ntmps11
    go_wp2_with fail
    refine (awake18_any _).calls.mono ?_
    rintro e _ ⟨rfl, x1, rfl⟩
    go_wp2_with fail
    refine (F1 _ (by (repeat (first | (with_reducible exact SinceOf.refl _) | (with_reducible assumption) | (with_reducible refine SinceOf.alloc ?_ _) | (with_reducible refine SinceOf.drew ?_) | (with_reducible refine SinceOf.drewN ?_ _) | (with_reducible refine SinceOf.later ?_ _) | (with_reducible refine SinceOf.further ?_ _) | (with_reducible refine SinceOf.setCell ?_ (by first | exact Nat.le_refl _ | (simp; done) | omega | (simp; omega)) _))))).calls.mono ?_
    rintro e _ ⟨rfl, x2, rfl⟩
    go_wp2_with fail
    refine (F2 _ (by (repeat (first | (with_reducible exact SinceOf.refl _) | (with_reducible assumption) | (with_reducible refine SinceOf.alloc ?_ _) | (with_reducible refine SinceOf.drew ?_) | (with_reducible refine SinceOf.drewN ?_ _) | (with_reducible refine SinceOf.later ?_ _) | (with_reducible refine SinceOf.further ?_ _) | (with_reducible refine SinceOf.setCell ?_ (by first | exact Nat.le_refl _ | (simp; done) | omega | (simp; omega)) _))))).calls.mono ?_
    rintro e _ ⟨rfl, x3, rfl⟩
    go_wp2_with fail
    go_returns
    exact ⟨rfl, by (repeat (first | (with_reducible exact SinceOf.refl _) | (with_reducible assumption) | (with_reducible refine SinceOf.alloc ?_ _) | (with_reducible refine SinceOf.drew ?_) | (with_reducible refine SinceOf.drewN ?_ _) | (with_reducible refine SinceOf.later ?_ _) | (with_reducible refine SinceOf.further ?_ _) | (with_reducible refine SinceOf.setCell ?_ (by first | exact Nat.le_refl _ | (simp; done) | omega | (simp; omega)) _)))⟩
  rw [hf] at F2
  clear hf
  have A1 := fun W (hW : SinceOf w W) => apart_any A B c d X Z k W (H.out.1.of hW) (H.out.2.of hW) (by omega)
  have A2 := fun W (hW : SinceOf w W) => refApart_any A B c d X Z k W (H.out.1.of hW) (H.out.2.of hW) (by omega)
  generalize apartV (vxs X) (vxs Z) k = ap at *
  obtain ⟨a1, a2⟩ := ap
  simp only at A1 A2
  have g1 : (a1 == a1) = true := by simp
  have g2 : (a2 == a2) = true := by simp
  go_enter Try.func11, Try.ntmps11
  go_wp2_with fail
  refine (awake18_any _).calls.mono ?_
  rintro e _ ⟨rfl, x1, rfl⟩
  go_wp2_with fail
  refine (F1 _ (by (repeat (first | (with_reducible exact SinceOf.refl _) | (with_reducible assumption) | (with_reducible refine SinceOf.alloc ?_ _) | (with_reducible refine SinceOf.drew ?_) | (with_reducible refine SinceOf.drewN ?_ _) | (with_reducible refine SinceOf.later ?_ _) | (with_reducible refine SinceOf.further ?_ _) | (with_reducible refine SinceOf.setCell ?_ (by first | exact Nat.le_refl _ | (simp; done) | omega | (simp; omega)) _))))).calls.mono ?_
  rintro e _ ⟨rfl, x2, rfl⟩
  go_wp2_with fail
  refine (F2 _ (by (repeat (first | (with_reducible exact SinceOf.refl _) | (with_reducible assumption) | (with_reducible refine SinceOf.alloc ?_ _) | (with_reducible refine SinceOf.drew ?_) | (with_reducible refine SinceOf.drewN ?_ _) | (with_reducible refine SinceOf.later ?_ _) | (with_reducible refine SinceOf.further ?_ _) | (with_reducible refine SinceOf.setCell ?_ (by first | exact Nat.le_refl _ | (simp; done) | omega | (simp; omega)) _))))).calls.mono ?_
  rintro e _ ⟨rfl, x3, rfl⟩
  go_wp2_with fail
  refine (A1 _ (by (repeat (first | (with_reducible exact SinceOf.refl _) | (with_reducible assumption) | (with_reducible refine SinceOf.alloc ?_ _) | (with_reducible refine SinceOf.drew ?_) | (with_reducible refine SinceOf.drewN ?_ _) | (with_reducible refine SinceOf.later ?_ _) | (with_reducible refine SinceOf.further ?_ _) | (with_reducible refine SinceOf.setCell ?_ (by first | exact Nat.le_refl _ | (simp; done) | omega | (simp; omega)) _))))).mono ?_
  rintro e _ ⟨rfl, ⟨x4, rfl⟩⟩
  clear A1
  go_wp2_with fail
  refine (A2 _ (by (repeat (first | (with_reducible exact SinceOf.refl _) | (with_reducible assumption) | (with_reducible refine SinceOf.alloc ?_ _) | (with_reducible refine SinceOf.drew ?_) | (with_reducible refine SinceOf.drewN ?_ _) | (with_reducible refine SinceOf.later ?_ _) | (with_reducible refine SinceOf.further ?_ _) | (with_reducible refine SinceOf.setCell ?_ (by first | exact Nat.le_refl _ | (simp; done) | omega | (simp; omega)) _))))).mono ?_
  rintro e _ ⟨rfl, ⟨x5, rfl⟩⟩
  clear A2
  go_wp2_with fail
  go_returns
  exact ⟨by simp, by (repeat (first | (with_reducible exact SinceOf.refl _) | (with_reducible assumption) | (with_reducible refine SinceOf.alloc ?_ _) | (with_reducible refine SinceOf.drew ?_) | (with_reducible refine SinceOf.drewN ?_ _) | (with_reducible refine SinceOf.later ?_ _) | (with_reducible refine SinceOf.further ?_ _) | (with_reducible refine SinceOf.setCell ?_ (by first | exact Nat.le_refl _ | (simp; done) | omega | (simp; omega)) _)))⟩
set_option maxRecDepth 100000 in
set_option maxHeartbeats 16000000 in
theorem offsetGap_any (A B : Option Addr) (c d : Nat) (X Z : List RgR) (k : Int) (w : World) (h : IsRings w A c X) (hz : IsRings w B d Z) : Yields Try.prog 12 #[.slice A X.length c, .slice B Z.length d, .int .i64 k] w (.bool true) := by
  apply Yields.ret
  have H := Lib.hid (And.intro h hz)
  have hXl := h.len
  have hZl := hz.len
  clear h hz
  have F1 := fun W (hW : SinceOf w W) => few18_any A c X 8 W (H.out.1.of hW)
  have F2 := fun W (hW : SinceOf w W) => few18_any B d Z 8 W (H.out.2.of hW)
  cases hf : fewB 8 (vxs X)
  · rw [hf] at F1
    clear hf F2
    go_enter Try.func12, Try.ntmps12
    go_wp2_with fail
    refine (awake18_any _).calls.mono ?_
    rintro e _ ⟨rfl, x1, rfl⟩
    go_wp2_with fail
    refine (F1 _ (by (repeat (first | (with_reducible exact SinceOf.refl _) | (with_reducible assumption) | (with_reducible refine SinceOf.alloc ?_ _) | (with_reducible refine SinceOf.drew ?_) | (with_reducible refine SinceOf.drewN ?_ _) | (with_reducible refine SinceOf.later ?_ _) | (with_reducible refine SinceOf.further ?_ _) | (with_reducible refine SinceOf.setCell ?_ (by first | exact Nat.le_refl _ | (simp; done) | omega | (simp; omega)) _))))).calls.mono ?_
    rintro e _ ⟨rfl, x2, rfl⟩
    go_wp2_with fail
    go_returns
    exact ⟨rfl, by (repeat (first | (with_reducible exact SinceOf.refl _) | (with_reducible assumption) | (with_reducible refine SinceOf.alloc ?_ _) | (with_reducible refine SinceOf.drew ?_) | (with_reducible refine SinceOf.drewN ?_ _) | (with_reducible refine SinceOf.later ?_ _) | (with_reducible refine SinceOf.further ?_ _) | (with_reducible refine SinceOf.setCell ?_ (by first | exact Nat.le_refl _ | (simp; done) | omega | (simp; omega)) _)))⟩
  rw [hf] at F1
  have hl := fewB_len hf
  have hl8 : ∀ x ∈ X, x.xs.length ≤ 20 := fun x hx => by
    have := hl.2 x.xs (List.mem_map.2 ⟨x, hx, rfl⟩)
    omega
  have hl4 := hl.1
  rw [vxs_len] at hl4
  clear hf hl
  cases hf : fewB 8 (vxs Z)
  · rw [hf] at F2
    clear hf
    go_enter Try.func12, Try.ntmps12
    go_wp2_with fail
    refine (awake18_any _).calls.mono ?_
    rintro e _ ⟨rfl, x1, rfl⟩
    go_wp2_with fail
    refine (F1 _ (by (repeat (first | (with_reducible exact SinceOf.refl _) | (with_reducible assumption) | (with_reducible refine SinceOf.alloc ?_ _) | (with_reducible refine SinceOf.drew ?_) | (with_reducible refine SinceOf.drewN ?_ _) | (with_reducible refine SinceOf.later ?_ _) | (with_reducible refine SinceOf.further ?_ _) | (with_reducible refine SinceOf.setCell ?_ (by first | exact Nat.le_refl _ | (simp; done) | omega | (simp; omega)) _))))).calls.mono ?_
    rintro e _ ⟨rfl, x2, rfl⟩
    go_wp2_with fail
    refine (F2 _ (by (repeat (first | (with_reducible exact SinceOf.refl _) | (with_reducible assumption) | (with_reducible refine SinceOf.alloc ?_ _) | (with_reducible refine SinceOf.drew ?_) | (with_reducible refine SinceOf.drewN ?_ _) | (with_reducible refine SinceOf.later ?_ _) | (with_reducible refine SinceOf.further ?_ _) | (with_reducible refine SinceOf.setCell ?_ (by first | exact Nat.le_refl _ | (simp; done) | omega | (simp; omega)) _))))).calls.mono ?_
    rintro e _ ⟨rfl, x3, rfl⟩
    go_wp2_with fail
    go_returns
    exact ⟨rfl, by (repeat (first | (with_reducible exact SinceOf.refl _) | (with_reducible assumption) | (with_reducible refine SinceOf.alloc ?_ _) | (with_reducible refine SinceOf.drew ?_) | (with_reducible refine SinceOf.drewN ?_ _) | (with_reducible refine SinceOf.later ?_ _) | (with_reducible refine SinceOf.further ?_ _) | (with_reducible refine SinceOf.setCell ?_ (by first | exact Nat.le_refl _ | (simp; done) | omega | (simp; omega)) _)))⟩
  rw [hf] at F2
  clear hf
  have A1 := fun W (hW : SinceOf w W) => gap_any A B c d X Z k W (H.out.1.of hW) (H.out.2.of hW) (by omega) hl8
  have A2 := fun W (hW : SinceOf w W) => refGap_any A B c d X Z k W (H.out.1.of hW) (H.out.2.of hW) (by omega) hl8
  generalize gapV (vxs X) (vxs Z) k = ap at *
  obtain ⟨a1, a2⟩ := ap
  simp only at A1 A2
  have g1 : (a1 == a1) = true := by simp
  have g2 : (a2 == a2) = true := by simp
  clear hl8
  by_cases hstop : 2 < X.length ∨ 2 < Z.length ∨ (15 < k ∧ k ≤ 200)
  · clear A1 A2
    have hs2 : decide (2 < (X.length : Int)) = true ∨ (decide (2 < (X.length : Int)) = false ∧ decide (2 < (Z.length : Int)) = true) ∨ (decide (2 < (X.length : Int)) = false ∧ decide (2 < (Z.length : Int)) = false ∧ decide (15 < k) = true ∧ decide (k ≤ 200) = true) := by
      by_cases q1 : 2 < X.length
      · exact .inl (decide_eq_true (by omega))
      · by_cases q2 : 2 < Z.length
        · exact .inr (.inl ⟨decide_eq_false (by omega), decide_eq_true (by omega)⟩)
        · exact .inr (.inr ⟨decide_eq_false (by omega), decide_eq_false (by omega), decide_eq_true (by omega), decide_eq_true (by omega)⟩)
    clear hstop
    rcases hs2 with s1 | ⟨s1, s2⟩ | ⟨s1, s2, s3, s4⟩
    all_goals
      go_enter Try.func12, Try.ntmps12
      go_wp2_with fail
      refine (awake18_any _).calls.mono ?_
      rintro e _ ⟨rfl, x1, rfl⟩
      go_wp2_with fail
      refine (F1 _ (by (repeat (first | (with_reducible exact SinceOf.refl _) | (with_reducible assumption) | (with_reducible refine SinceOf.alloc ?_ _) | (with_reducible refine SinceOf.drew ?_) | (with_reducible refine SinceOf.drewN ?_ _) | (with_reducible refine SinceOf.later ?_ _) | (with_reducible refine SinceOf.further ?_ _) | (with_reducible refine SinceOf.setCell ?_ (by first | exact Nat.le_refl _ | (simp; done) | omega | (simp; omega)) _))))).calls.mono ?_
      rintro e _ ⟨rfl, x2, rfl⟩
      go_wp2_with fail
      refine (F2 _ (by (repeat (first | (with_reducible exact SinceOf.refl _) | (with_reducible assumption) | (with_reducible refine SinceOf.alloc ?_ _) | (with_reducible refine SinceOf.drew ?_) | (with_reducible refine SinceOf.drewN ?_ _) | (with_reducible refine SinceOf.later ?_ _) | (with_reducible refine SinceOf.further ?_ _) | (with_reducible refine SinceOf.setCell ?_ (by first | exact Nat.le_refl _ | (simp; done) | omega | (simp; omega)) _))))).calls.mono ?_
      rintro e _ ⟨rfl, x3, rfl⟩
      go_wp2_with fail
      go_returns
      exact ⟨rfl, by (repeat (first | (with_reducible exact SinceOf.refl _) | (with_reducible assumption) | (with_reducible refine SinceOf.alloc ?_ _) | (with_reducible refine SinceOf.drew ?_) | (with_reducible refine SinceOf.drewN ?_ _) | (with_reducible refine SinceOf.later ?_ _) | (with_reducible refine SinceOf.further ?_ _) | (with_reducible refine SinceOf.setCell ?_ (by first | exact Nat.le_refl _ | (simp; done) | omega | (simp; omega)) _)))⟩
  · have s1 : decide (2 < (X.length : Int)) = false := decide_eq_false (by omega)
    have s2 : decide (2 < (Z.length : Int)) = false := decide_eq_false (by omega)
    have hs3 : decide (15 < k) = false ∨ (decide (15 < k) = true ∧ decide (k ≤ 200) = false) := by
      by_cases q1 : 15 < k
      · exact .inr ⟨decide_eq_true q1, decide_eq_false (by omega)⟩
      · exact .inl (decide_eq_false q1)
    clear hstop
    rcases hs3 with s3 | ⟨s3, s4⟩
    all_goals
      go_enter Try.func12, Try.ntmps12
      go_wp2_with fail
      refine (awake18_any _).calls.mono ?_
      rintro e _ ⟨rfl, x1, rfl⟩
      go_wp2_with fail
      refine (F1 _ (by (repeat (first | (with_reducible exact SinceOf.refl _) | (with_reducible assumption) | (with_reducible refine SinceOf.alloc ?_ _) | (with_reducible refine SinceOf.drew ?_) | (with_reducible refine SinceOf.drewN ?_ _) | (with_reducible refine SinceOf.later ?_ _) | (with_reducible refine SinceOf.further ?_ _) | (with_reducible refine SinceOf.setCell ?_ (by first | exact Nat.le_refl _ | (simp; done) | omega | (simp; omega)) _))))).calls.mono ?_
      rintro e _ ⟨rfl, x2, rfl⟩
      go_wp2_with fail
      refine (F2 _ (by (repeat (first | (with_reducible exact SinceOf.refl _) | (with_reducible assumption) | (with_reducible refine SinceOf.alloc ?_ _) | (with_reducible refine SinceOf.drew ?_) | (with_reducible refine SinceOf.drewN ?_ _) | (with_reducible refine SinceOf.later ?_ _) | (with_reducible refine SinceOf.further ?_ _) | (with_reducible refine SinceOf.setCell ?_ (by first | exact Nat.le_refl _ | (simp; done) | omega | (simp; omega)) _))))).calls.mono ?_
      rintro e _ ⟨rfl, x3, rfl⟩
      go_wp2_with fail
      refine (A1 _ (by (repeat (first | (with_reducible exact SinceOf.refl _) | (with_reducible assumption) | (with_reducible refine SinceOf.alloc ?_ _) | (with_reducible refine SinceOf.drew ?_) | (with_reducible refine SinceOf.drewN ?_ _) | (with_reducible refine SinceOf.later ?_ _) | (with_reducible refine SinceOf.further ?_ _) | (with_reducible refine SinceOf.setCell ?_ (by first | exact Nat.le_refl _ | (simp; done) | omega | (simp; omega)) _))))).mono ?_
      rintro e _ ⟨rfl, ⟨x4, rfl⟩⟩
      clear A1
      go_wp2_with fail
      refine (A2 _ (by (repeat (first | (with_reducible exact SinceOf.refl _) | (with_reducible assumption) | (with_reducible refine SinceOf.alloc ?_ _) | (with_reducible refine SinceOf.drew ?_) | (with_reducible refine SinceOf.drewN ?_ _) | (with_reducible refine SinceOf.later ?_ _) | (with_reducible refine SinceOf.further ?_ _) | (with_reducible refine SinceOf.setCell ?_ (by first | exact Nat.le_refl _ | (simp; done) | omega | (simp; omega)) _))))).mono ?_
      rintro e _ ⟨rfl, ⟨x5, rfl⟩⟩
      clear A2
      go_wp2_with fail
      go_returns
      exact ⟨by simp, by (repeat (first | (with_reducible exact SinceOf.refl _) | (with_reducible assumption) | (with_reducible refine SinceOf.alloc ?_ _) | (with_reducible refine SinceOf.drew ?_) | (with_reducible refine SinceOf.drewN ?_ _) | (with_reducible refine SinceOf.later ?_ _) | (with_reducible refine SinceOf.further ?_ _) | (with_reducible refine SinceOf.setCell ?_ (by first | exact Nat.le_refl _ | (simp; done) | omega | (simp; omega)) _)))⟩
end Go.Proofs.Yticmfmcflikneaa
