/- Layer 18: modest; the walk of OffsetSymmetric. -/
import Derived.Test.YticmfmcflikneaaOff10
import Derived.Test.YticmfmcflikneaaOffP4
namespace Go.Proofs.Yticmfmcflikneaa
open Go.RowKit Go.Sort
set_option linter.unusedVariables false
set_option linter.unusedSimpArgs false
attribute [local go_sem ↓] Go.wp_at_zero Go.wp_at_succ

def inW (p : Pt) : Bool := withinB p.1 p.2 2000
set_option maxRecDepth 100000 in
set_option maxHeartbeats 8000000 in
theorem modest_any (A : Option Addr) (c : Nat) (X : List RgR) (w : World) (h : IsRings w A c X) :
    Gives Try.prog 52 #[.slice A X.length c] w (.bool (modB (vxs X))) := by
  apply Gives.ret
  have H := Lib.hid h
  have hXl := h.len
  clear h
  have hb : modB (vxs X) = (X.all (fun x => modR 2000 x.xs) && decide (X.length ≤ 3)) := by
    unfold modB
    rw [vxs_all (α := Nat), vxs_len]
  rw [hb]
  generalize hres : (X.all (fun x => modR 2000 x.xs) && decide (X.length ≤ 3)) = res
  have HR := Lib.hid hres
  clear hres hb
  go_enter Try.func52, Try.ntmps52
  go_wp2_with fail
  go_loopg [3] X.length (fun gas s3 wr => ∃ i : Nat, i ≤ X.length ∧ X.length - i ≤ gas ∧ s3 = .int .i64 i ∧ LaterOf w wr ∧ X.all (fun x => modR 2000 x.xs) = (X.drop i).all (fun x => modR 2000 x.xs))
  case atStart => exact ⟨0, by omega, by omega, rfl, by (repeat (first | (with_reducible exact LaterOf.refl _) | (with_reducible refine LaterOf.alloc ?_ _) | (with_reducible refine LaterOf.drew ?_) | (with_reducible refine LaterOf.drewN ?_ _) | (with_reducible refine LaterOf.later ?_ _) | (with_reducible refine LaterOf.setCell ?_ (by first | exact Nat.le_refl _ | (simp; done) | omega | (simp; omega)) _))), by rw [List.drop_zero]⟩
  case round =>
    obtain ⟨i, hi, hgas, rfl, ⟨z, rfl⟩, hall⟩ := hrel
    by_cases hlt : i < X.length
    · rw [all_dropG _ hlt] at hall
      have hX := H.out.of (w' := z.wd) (by (repeat (first | (with_reducible exact SinceOf.refl _) | (with_reducible assumption) | (with_reducible refine SinceOf.alloc ?_ _) | (with_reducible refine SinceOf.drew ?_) | (with_reducible refine SinceOf.drewN ?_ _) | (with_reducible refine SinceOf.later ?_ _) | (with_reducible refine SinceOf.further ?_ _) | (with_reducible refine SinceOf.setCell ?_ (by first | exact Nat.le_refl _ | (simp; done) | omega | (simp; omega)) _))))
      have hx := hX.all _ (List.getElem_mem hlt)
      obtain ⟨g, off, rfl, hr⟩ := hX.row.at_ (by omega)
      have hO := hr.there
      have k0 := hr.g0 i hlt
      have CV := fun W (hW : SinceOf z.wd W) => refConvex_any X[i].A X[i].c X[i].xs W (hx.1.of hW) hx.2
      have hmr : modR 2000 X[i].xs = (decide (X[i].xs.length ≤ 8) && convexB X[i].xs && X[i].xs.all inW) := rfl
      have hxl := hx.2
      have HX := Lib.hid hx.1
      generalize X[i] = x at *
      clear hr hX hx
      obtain ⟨xA, xc, xs⟩ := x
      simp only at k0 CV hmr hxl HX hall
      by_cases h8 : 8 < xs.length
      · rw [decide_eq_false (by omega), Bool.false_and, Bool.false_and] at hmr
        rw [hmr, Bool.false_and] at hall
        have hres := HR.out
        rw [hall, Bool.false_and] at hres
        subst hres
        have g1 : decide (8 < (xs.length : Int)) = true := decide_eq_true (by omega)
        clear hall hmr h8
        go_wp2_with fail
        go_returns
        exact ⟨rfl, by (repeat (first | (with_reducible exact LaterOf.refl _) | (with_reducible refine LaterOf.alloc ?_ _) | (with_reducible refine LaterOf.drew ?_) | (with_reducible refine LaterOf.drewN ?_ _) | (with_reducible refine LaterOf.later ?_ _) | (with_reducible refine LaterOf.setCell ?_ (by first | exact Nat.le_refl _ | (simp; done) | omega | (simp; omega)) _)))⟩
      have g1 : decide (8 < (xs.length : Int)) = false := decide_eq_false (by omega)
      rw [decide_eq_true (show xs.length ≤ 8 by omega), Bool.true_and] at hmr
      cases hcv : convexB xs
      · rw [hcv] at hmr CV
        rw [Bool.false_and] at hmr
        rw [hmr, Bool.false_and] at hall
        have hres := HR.out
        rw [hall, Bool.false_and] at hres
        subst hres
        clear hall hmr hcv h8
        go_wp2_with fail
        refine (CV _ (by (repeat (first | (with_reducible exact SinceOf.refl _) | (with_reducible assumption) | (with_reducible refine SinceOf.alloc ?_ _) | (with_reducible refine SinceOf.drew ?_) | (with_reducible refine SinceOf.drewN ?_ _) | (with_reducible refine SinceOf.later ?_ _) | (with_reducible refine SinceOf.further ?_ _) | (with_reducible refine SinceOf.setCell ?_ (by first | exact Nat.le_refl _ | (simp; done) | omega | (simp; omega)) _))))).calls.mono ?_
        rintro e _ ⟨rfl, x2, rfl⟩
        go_wp2_with fail
        go_returns
        exact ⟨rfl, by (repeat (first | (with_reducible exact LaterOf.refl _) | (with_reducible refine LaterOf.alloc ?_ _) | (with_reducible refine LaterOf.drew ?_) | (with_reducible refine LaterOf.drewN ?_ _) | (with_reducible refine LaterOf.later ?_ _) | (with_reducible refine LaterOf.setCell ?_ (by first | exact Nat.le_refl _ | (simp; done) | omega | (simp; omega)) _)))⟩
      · rw [hcv] at hmr CV
        rw [Bool.true_and] at hmr
        rw [hmr] at hall
        have HA := Lib.hid hall
        clear hall hmr hcv h8
        go_wp2_with fail
        refine (CV _ (by (repeat (first | (with_reducible exact SinceOf.refl _) | (with_reducible assumption) | (with_reducible refine SinceOf.alloc ?_ _) | (with_reducible refine SinceOf.drew ?_) | (with_reducible refine SinceOf.drewN ?_ _) | (with_reducible refine SinceOf.later ?_ _) | (with_reducible refine SinceOf.further ?_ _) | (with_reducible refine SinceOf.setCell ?_ (by first | exact Nat.le_refl _ | (simp; done) | omega | (simp; omega)) _))))).calls.mono ?_
        rintro e _ ⟨rfl, x2, rfl⟩
        clear CV
        go_wp2_with fail
        go_loopg [4] xs.length (fun gas2 s4 wr => ∃ k : Nat, k ≤ xs.length ∧ xs.length - k ≤ gas2 ∧ s4 = .int .i64 k ∧ LaterOf x2.wd wr ∧ xs.all inW = (xs.drop k).all inW)
        case atStart => exact ⟨0, by omega, by omega, rfl, by (repeat (first | (with_reducible exact LaterOf.refl _) | (with_reducible refine LaterOf.alloc ?_ _) | (with_reducible refine LaterOf.drew ?_) | (with_reducible refine LaterOf.drewN ?_ _) | (with_reducible refine LaterOf.later ?_ _) | (with_reducible refine LaterOf.setCell ?_ (by first | exact Nat.le_refl _ | (simp; done) | omega | (simp; omega)) _))), by rw [List.drop_zero]⟩
        case round =>
          obtain ⟨k, hk, hgas2, rfl, ⟨y, rfl⟩, hin⟩ := hrel
          by_cases hlt2 : k < xs.length
          · rw [all_dropG _ hlt2] at hin
            have hv := HX.out.of (w' := y.wd) (by (repeat (first | (with_reducible exact SinceOf.refl _) | (with_reducible assumption) | (with_reducible refine SinceOf.alloc ?_ _) | (with_reducible refine SinceOf.drew ?_) | (with_reducible refine SinceOf.drewN ?_ _) | (with_reducible refine SinceOf.later ?_ _) | (with_reducible refine SinceOf.further ?_ _) | (with_reducible refine SinceOf.setCell ?_ (by first | exact Nat.le_refl _ | (simp; done) | omega | (simp; omega)) _))))
            obtain ⟨g2, off2, rfl, hr⟩ := hv.at_ (by omega)
            have hO2 := hr.there
            have p0 := hr.v0 k hlt2
            have p1 := hr.v1 k hlt2
            have N := refWithin_any xs[k].1 xs[k].2 2000
            rw [show inW xs[k] = withinB xs[k].1 xs[k].2 2000 from rfl] at hin
            generalize xs[k].1 = px at *
            generalize xs[k].2 = py at *
            generalize withinB px py 2000 = b at *
            clear hr hv
            cases b
            · rw [Bool.false_and] at hin
              have hall := HA.out
              rw [hin, Bool.false_and] at hall
              have hres := HR.out
              rw [hall, Bool.false_and] at hres
              subst hres
              clear hin hall
              go_wp2_with fail
              refine (N _).calls.mono ?_
              rintro e _ ⟨rfl, x3, rfl⟩
              go_wp2_with fail
              go_returns
              exact ⟨rfl, by (repeat (first | (with_reducible exact LaterOf.refl _) | (with_reducible refine LaterOf.alloc ?_ _) | (with_reducible refine LaterOf.drew ?_) | (with_reducible refine LaterOf.drewN ?_ _) | (with_reducible refine LaterOf.later ?_ _) | (with_reducible refine LaterOf.setCell ?_ (by first | exact Nat.le_refl _ | (simp; done) | omega | (simp; omega)) _)))⟩
            · rw [Bool.true_and] at hin
              have HI := Lib.hid hin
              clear hin
              go_wp2_with fail
              refine (N _).calls.mono ?_
              rintro e _ ⟨rfl, x3, rfl⟩
              go_wp2_with fail
              go_roundg (xs.length - (k + 1))
              case measure => omega
              case rel => exact ⟨k + 1, hlt2, Nat.le_refl _, by go_num, by (repeat (first | (with_reducible exact LaterOf.refl _) | (with_reducible refine LaterOf.alloc ?_ _) | (with_reducible refine LaterOf.drew ?_) | (with_reducible refine LaterOf.drewN ?_ _) | (with_reducible refine LaterOf.later ?_ _) | (with_reducible refine LaterOf.setCell ?_ (by first | exact Nat.le_refl _ | (simp; done) | omega | (simp; omega)) _))), HI.out⟩
          · obtain rfl : k = xs.length := by omega
            rw [List.drop_length] at hin
            have hall := HA.out
            rw [hin] at hall
            have HI := Lib.hid (show _ = (X.drop (i + 1)).all (fun x => modR 2000 x.xs) from hall)
            clear hin hall
            go_wp2_with fail
            go_roundg (X.length - (i + 1))
            case measure => omega
            case rel => exact ⟨i + 1, hlt, Nat.le_refl _, by go_num, by (repeat (first | (with_reducible exact LaterOf.refl _) | (with_reducible refine LaterOf.alloc ?_ _) | (with_reducible refine LaterOf.drew ?_) | (with_reducible refine LaterOf.drewN ?_ _) | (with_reducible refine LaterOf.later ?_ _) | (with_reducible refine LaterOf.setCell ?_ (by first | exact Nat.le_refl _ | (simp; done) | omega | (simp; omega)) _))), HI.out⟩
    · obtain rfl : i = X.length := by omega
      rw [List.drop_length] at hall
      have hres := HR.out
      rw [hall, List.all_nil, Bool.true_and] at hres
      have HI := Lib.hid hres
      clear hall hres hi hlt
      by_cases h3 : X.length ≤ 3
      · rw [decide_eq_true h3] at HI
        obtain rfl := HI.out
        have g1 : decide ((X.length : Int) ≤ 3) = true := decide_eq_true (by omega)
        clear h3
        go_wp2_with fail
        go_returns
        exact ⟨rfl, by (repeat (first | (with_reducible exact LaterOf.refl _) | (with_reducible refine LaterOf.alloc ?_ _) | (with_reducible refine LaterOf.drew ?_) | (with_reducible refine LaterOf.drewN ?_ _) | (with_reducible refine LaterOf.later ?_ _) | (with_reducible refine LaterOf.setCell ?_ (by first | exact Nat.le_refl _ | (simp; done) | omega | (simp; omega)) _)))⟩
      · rw [decide_eq_false h3] at HI
        obtain rfl := HI.out
        have g1 : decide ((X.length : Int) ≤ 3) = false := decide_eq_false (by omega)
        clear h3
        go_wp2_with fail
        go_returns
        exact ⟨rfl, by (repeat (first | (with_reducible exact LaterOf.refl _) | (with_reducible refine LaterOf.alloc ?_ _) | (with_reducible refine LaterOf.drew ?_) | (with_reducible refine LaterOf.drewN ?_ _) | (with_reducible refine LaterOf.later ?_ _) | (with_reducible refine LaterOf.setCell ?_ (by first | exact Nat.le_refl _ | (simp; done) | omega | (simp; omega)) _)))⟩
set_option maxRecDepth 100000 in
set_option maxHeartbeats 8000000 in
theorem offsetSymmetric_any (A B : Option Addr) (c d : Nat) (X Z : List RgR) (t : Int) (w : World) (h : IsRings w A c X) (hz : IsRings w B d Z) (ht : 0 ≤ t ∧ t ≤ 255) : Yields Try.prog 13 #[.slice A X.length c, .slice B Z.length d, .int .u8 t] w (.bool true) := by
  apply Yields.ret
  have H := Lib.hid (And.intro h hz)
  clear h hz
  have M1 := fun W (hW : SinceOf w W) => modest_any A c X W (H.out.1.of hW)
  have M2 := fun W (hW : SinceOf w W) => modest_any B d Z W (H.out.2.of hW)
  have ht0 := ht.1
  have ht1 := ht.2
  clear ht
  cases hm : modB (vxs X)
  · rw [hm] at M1
    clear M2 hm
    go_enter Try.func13, Try.ntmps13
    go_wp2_with fail
    refine (awake18_any _).calls.mono ?_
    rintro e _ ⟨rfl, x1, rfl⟩
    go_wp2_with fail
    refine (M1 _ (by (repeat (first | (with_reducible exact SinceOf.refl _) | (with_reducible assumption) | (with_reducible refine SinceOf.alloc ?_ _) | (with_reducible refine SinceOf.drew ?_) | (with_reducible refine SinceOf.drewN ?_ _) | (with_reducible refine SinceOf.later ?_ _) | (with_reducible refine SinceOf.further ?_ _) | (with_reducible refine SinceOf.setCell ?_ (by first | exact Nat.le_refl _ | (simp; done) | omega | (simp; omega)) _))))).calls.mono ?_
    rintro e _ ⟨rfl, x2, rfl⟩
    go_wp2_with fail
    go_returns
    exact ⟨rfl, by (repeat (first | (with_reducible exact SinceOf.refl _) | (with_reducible assumption) | (with_reducible refine SinceOf.alloc ?_ _) | (with_reducible refine SinceOf.drew ?_) | (with_reducible refine SinceOf.drewN ?_ _) | (with_reducible refine SinceOf.later ?_ _) | (with_reducible refine SinceOf.further ?_ _) | (with_reducible refine SinceOf.setCell ?_ (by first | exact Nat.le_refl _ | (simp; done) | omega | (simp; omega)) _)))⟩
  cases hm2 : modB (vxs Z)
  · rw [hm] at M1
    rw [hm2] at M2
    clear hm hm2
    go_enter Try.func13, Try.ntmps13
    go_wp2_with fail
    refine (awake18_any _).calls.mono ?_
    rintro e _ ⟨rfl, x1, rfl⟩
    go_wp2_with fail
    refine (M1 _ (by (repeat (first | (with_reducible exact SinceOf.refl _) | (with_reducible assumption) | (with_reducible refine SinceOf.alloc ?_ _) | (with_reducible refine SinceOf.drew ?_) | (with_reducible refine SinceOf.drewN ?_ _) | (with_reducible refine SinceOf.later ?_ _) | (with_reducible refine SinceOf.further ?_ _) | (with_reducible refine SinceOf.setCell ?_ (by first | exact Nat.le_refl _ | (simp; done) | omega | (simp; omega)) _))))).calls.mono ?_
    rintro e _ ⟨rfl, x2, rfl⟩
    go_wp2_with fail
    refine (M2 _ (by (repeat (first | (with_reducible exact SinceOf.refl _) | (with_reducible assumption) | (with_reducible refine SinceOf.alloc ?_ _) | (with_reducible refine SinceOf.drew ?_) | (with_reducible refine SinceOf.drewN ?_ _) | (with_reducible refine SinceOf.later ?_ _) | (with_reducible refine SinceOf.further ?_ _) | (with_reducible refine SinceOf.setCell ?_ (by first | exact Nat.le_refl _ | (simp; done) | omega | (simp; omega)) _))))).calls.mono ?_
    rintro e _ ⟨rfl, x3, rfl⟩
    go_wp2_with fail
    go_returns
    exact ⟨rfl, by (repeat (first | (with_reducible exact SinceOf.refl _) | (with_reducible assumption) | (with_reducible refine SinceOf.alloc ?_ _) | (with_reducible refine SinceOf.drew ?_) | (with_reducible refine SinceOf.drewN ?_ _) | (with_reducible refine SinceOf.later ?_ _) | (with_reducible refine SinceOf.further ?_ _) | (with_reducible refine SinceOf.setCell ?_ (by first | exact Nat.le_refl _ | (simp; done) | omega | (simp; omega)) _)))⟩
  obtain ⟨tX, -⟩ := modB_tame hm
  obtain ⟨tZ, -⟩ := modB_tame hm2
  rw [hm] at M1
  rw [hm2] at M2
  have HT := Lib.hid (And.intro tX tZ)
  have hXl := tX.1
  have hZl := tZ.1
  rw [vxs_len] at hXl hZl
  have hX20 : ∀ x ∈ X, x.xs.length ≤ 20 := fun x hx => tX.len20 _ (List.mem_map.2 ⟨x, hx, rfl⟩)
  have hZ20 : ∀ x ∈ Z, x.xs.length ≤ 20 := fun x hx => tZ.len20 _ (List.mem_map.2 ⟨x, hx, rfl⟩)
  clear hm hm2 tX tZ
  obtain ⟨m, hmd⟩ : ∃ m, m = t % 201 := ⟨_, rfl⟩
  have hm0 : 0 ≤ m := by omega
  have hm2 : m ≤ 200 := by omega
  have A1 := fun W (hW : SinceOf w W) => apart_any A B c d X Z m W (H.out.1.of hW) (H.out.2.of hW) (by omega)
  have A2 := fun W (hW : SinceOf w W) => apart_any B A d c Z X m W (H.out.2.of hW) (H.out.1.of hW) (by omega)
  have G1 := fun W (hW : SinceOf w W) => gap_any A B c d X Z m W (H.out.1.of hW) (H.out.2.of hW) (by omega) hX20
  have G2 := fun W (hW : SinceOf w W) => gap_any B A d c Z X m W (H.out.2.of hW) (H.out.1.of hW) (by omega) hZ20
  rw [apart_symm hm0 hm2 HT.out.2 HT.out.1, (tame_apart hm0 hm2 HT.out.1 HT.out.2).1] at A2
  rw [(tame_apart hm0 hm2 HT.out.1 HT.out.2).1] at A1
  rw [gap_symm hm0 hm2 HT.out.2 HT.out.1] at G2
  clear hX20 hZ20
  generalize (apartV (vxs X) (vxs Z) m).1 = a1 at *
  generalize (gapV (vxs X) (vxs Z) m).1 = b1 at *
  generalize (gapV (vxs X) (vxs Z) m).2 = b2 at *
  have e1 : t % 201 = m := hmd.symm
  clear hmd
  go_enter Try.func13, Try.ntmps13
  go_wp2_with fail
  refine (awake18_any _).calls.mono ?_
  rintro e _ ⟨rfl, x1, rfl⟩
  go_wp2_with fail
  refine (M1 _ (by (repeat (first | (with_reducible exact SinceOf.refl _) | (with_reducible assumption) | (with_reducible refine SinceOf.alloc ?_ _) | (with_reducible refine SinceOf.drew ?_) | (with_reducible refine SinceOf.drewN ?_ _) | (with_reducible refine SinceOf.later ?_ _) | (with_reducible refine SinceOf.further ?_ _) | (with_reducible refine SinceOf.setCell ?_ (by first | exact Nat.le_refl _ | (simp; done) | omega | (simp; omega)) _))))).calls.mono ?_
  rintro e _ ⟨rfl, x2, rfl⟩
  go_wp2_with fail
  refine (M2 _ (by (repeat (first | (with_reducible exact SinceOf.refl _) | (with_reducible assumption) | (with_reducible refine SinceOf.alloc ?_ _) | (with_reducible refine SinceOf.drew ?_) | (with_reducible refine SinceOf.drewN ?_ _) | (with_reducible refine SinceOf.later ?_ _) | (with_reducible refine SinceOf.further ?_ _) | (with_reducible refine SinceOf.setCell ?_ (by first | exact Nat.le_refl _ | (simp; done) | omega | (simp; omega)) _))))).calls.mono ?_
  rintro e _ ⟨rfl, x3, rfl⟩
  clear M1 M2
  go_wp2_with fail
  refine (A1 _ (by (repeat (first | (with_reducible exact SinceOf.refl _) | (with_reducible assumption) | (with_reducible refine SinceOf.alloc ?_ _) | (with_reducible refine SinceOf.drew ?_) | (with_reducible refine SinceOf.drewN ?_ _) | (with_reducible refine SinceOf.later ?_ _) | (with_reducible refine SinceOf.further ?_ _) | (with_reducible refine SinceOf.setCell ?_ (by first | exact Nat.le_refl _ | (simp; done) | omega | (simp; omega)) _))))).mono ?_
  rintro e _ ⟨rfl, ⟨x4, rfl⟩⟩
  go_wp2_with fail
  refine (A2 _ (by (repeat (first | (with_reducible exact SinceOf.refl _) | (with_reducible assumption) | (with_reducible refine SinceOf.alloc ?_ _) | (with_reducible refine SinceOf.drew ?_) | (with_reducible refine SinceOf.drewN ?_ _) | (with_reducible refine SinceOf.later ?_ _) | (with_reducible refine SinceOf.further ?_ _) | (with_reducible refine SinceOf.setCell ?_ (by first | exact Nat.le_refl _ | (simp; done) | omega | (simp; omega)) _))))).mono ?_
  rintro e _ ⟨rfl, ⟨x5, rfl⟩⟩
  go_wp2_with fail
  refine (G1 _ (by (repeat (first | (with_reducible exact SinceOf.refl _) | (with_reducible assumption) | (with_reducible refine SinceOf.alloc ?_ _) | (with_reducible refine SinceOf.drew ?_) | (with_reducible refine SinceOf.drewN ?_ _) | (with_reducible refine SinceOf.later ?_ _) | (with_reducible refine SinceOf.further ?_ _) | (with_reducible refine SinceOf.setCell ?_ (by first | exact Nat.le_refl _ | (simp; done) | omega | (simp; omega)) _))))).mono ?_
  rintro e _ ⟨rfl, ⟨x6, rfl⟩⟩
  go_wp2_with fail
  refine (G2 _ (by (repeat (first | (with_reducible exact SinceOf.refl _) | (with_reducible assumption) | (with_reducible refine SinceOf.alloc ?_ _) | (with_reducible refine SinceOf.drew ?_) | (with_reducible refine SinceOf.drewN ?_ _) | (with_reducible refine SinceOf.later ?_ _) | (with_reducible refine SinceOf.further ?_ _) | (with_reducible refine SinceOf.setCell ?_ (by first | exact Nat.le_refl _ | (simp; done) | omega | (simp; omega)) _))))).mono ?_
  rintro e _ ⟨rfl, ⟨x7, rfl⟩⟩
  clear A1 A2 G1 G2
  go_wp2_with fail
  go_returns
  exact ⟨by simp, by (repeat (first | (with_reducible exact SinceOf.refl _) | (with_reducible assumption) | (with_reducible refine SinceOf.alloc ?_ _) | (with_reducible refine SinceOf.drew ?_) | (with_reducible refine SinceOf.drewN ?_ _) | (with_reducible refine SinceOf.later ?_ _) | (with_reducible refine SinceOf.further ?_ _) | (with_reducible refine SinceOf.setCell ?_ (by first | exact Nat.le_refl _ | (simp; done) | omega | (simp; omega)) _)))⟩
end Go.Proofs.Yticmfmcflikneaa
