/- Layer 46: few of the law; JointOnce, walked. -/
import Derived.Test.YtkpnffokjpgalaaGreatKJnt31
namespace Go.Proofs.YtkpnffokjpgalaaGreat
set_option linter.unusedVariables false
set_option linter.unusedSimpArgs false
open Go.RowKit Go.Sort
attribute [local go_sem ↓] Go.wp_at_zero Go.wp_at_succ

def nearX (r : List Pt) : Bool := decide (r.length ≤ 60) && r.all fun p => withinB p.1 p.2 60
/-- At most 5 rings of up to 60 vertices with coordinates within 60. -/
def fewX (rs : List (List Pt)) : Bool := rs.all nearX && decide (rs.length ≤ 5)
theorem all_drop {α : Type} (p : α → Bool) {l : List α} {k : Nat} (h : k < l.length) : (l.drop k).all p = (p l[k] && (l.drop (k + 1)).all p) := by
  rw [List.drop_eq_getElem_cons h, List.all_cons]
set_option maxRecDepth 100000 in
set_option maxHeartbeats 8000000 in
theorem few46_any (A : Option Addr) (c : Nat) (X : List RgR) (w : World) (h : IsRings w A c X) : Gives Tryz.prog 15 #[.slice A X.length c] w (.bool (fewX (vxs X))) := by
  apply Gives.ret
  have hlen := h.len
  have FW := few_any
  have WI := fun x y => refWithin_any x y 60
  have H := Lib.hid h
  clear h
  generalize hres : fewX (vxs X) = res
  have HR := Lib.hid hres
  clear hres
  go_enter Tryz.func15, Tryz.ntmps15
  go_wp2_with fail
  go_loopg [3] X.length (fun gas s3 wr => ∃ i : Nat, i ≤ X.length ∧ X.length - i ≤ gas ∧ s3 = .int .i64 i ∧ (((vxs X).drop i).all nearX && decide (X.length ≤ 5)) = res ∧ LaterOf w wr)
  case atStart => exact ⟨0, by omega, by omega, rfl, by rw [← HR.out]; unfold fewX; rw [vxs_len]; simp, by (repeat (first | (with_reducible exact LaterOf.refl _) | (with_reducible refine LaterOf.alloc ?_ _) | (with_reducible refine LaterOf.drew ?_) | (with_reducible refine LaterOf.drewN ?_ _) | (with_reducible refine LaterOf.later ?_ _) | (with_reducible refine LaterOf.setCell ?_ (by first | exact Nat.le_refl _ | (simp; done) | omega | (simp; omega)) _)))⟩
  case round =>
    obtain ⟨i, hi, hgas, rfl, hfin, ⟨z, rfl⟩⟩ := hrel
    by_cases hlt : i < X.length
    · have hx0 := H.out.of (w' := z.wd) (by (repeat (first | (with_reducible exact SinceOf.refl _) | (with_reducible assumption) | (with_reducible refine SinceOf.alloc ?_ _) | (with_reducible refine SinceOf.drew ?_) | (with_reducible refine SinceOf.drewN ?_ _) | (with_reducible refine SinceOf.later ?_ _) | (with_reducible refine SinceOf.further ?_ _) | (with_reducible refine SinceOf.setCell ?_ (by first | exact Nat.le_refl _ | (simp; done) | omega | (simp; omega)) _))))
      obtain ⟨g, off, rfl, hr⟩ := hx0.row.at_ (by omega)
      have hO1 := hr.there
      have k0 := hr.g0 i hlt
      have hxr := hx0.all _ (List.getElem_mem hlt)
      have hlv : i < (vxs X).length := by rw [vxs_len]; exact hlt
      rw [all_drop nearX hlv, vxs_at hlt] at hfin
      obtain ⟨x, hx⟩ : ∃ x, x = X[i] := ⟨_, rfl⟩
      rw [← hx] at k0 hxr hfin
      have F1 := FW x.A x.c x.xs
      obtain ⟨fw, hfw⟩ : ∃ b, b = decide (x.xs.length ≤ 60) := ⟨_, rfl⟩
      rw [← hfw] at F1
      have HF := Lib.hid (And.intro hfin (And.intro hfw hxr))
      obtain ⟨xA, xcc, xs⟩ := x
      simp only at k0 F1
      clear hfin hfw hxr hr hx0 hx hlv
      go_wp2_with fail
      refine (F1 _).calls.mono ?_
      rintro e _ ⟨rfl, z1, rfl⟩
      clear F1
      cases fw
      · obtain rfl : res = false := by
          have := HF.out.1
          unfold nearX at this
          rw [← HF.out.2.1] at this
          simpa using this.symm
        go_wp2_with fail
        go_returns
        exact ⟨rfl, by (repeat (first | (with_reducible exact LaterOf.refl _) | (with_reducible refine LaterOf.alloc ?_ _) | (with_reducible refine LaterOf.drew ?_) | (with_reducible refine LaterOf.drewN ?_ _) | (with_reducible refine LaterOf.later ?_ _) | (with_reducible refine LaterOf.setCell ?_ (by first | exact Nat.le_refl _ | (simp; done) | omega | (simp; omega)) _)))⟩
      · go_wp2_with fail
        go_loopg [4] xs.length (fun gas2 s4 wr => ∃ k : Nat, k ≤ xs.length ∧ xs.length - k ≤ gas2 ∧ s4 = .int .i64 k ∧ (((xs.drop k).all fun p => withinB p.1 p.2 60) && (((vxs X).drop (i + 1)).all nearX && decide (X.length ≤ 5))) = res ∧ LaterOf z1.wd wr)
        case atStart => exact ⟨0, by omega, by omega, rfl, by
          have h1 := HF.out.1
          have h2 : decide (xs.length ≤ 60) = true := HF.out.2.1.symm
          have h3 : nearX xs = xs.all fun p => withinB p.1 p.2 60 := by unfold nearX; rw [h2, Bool.true_and]
          rw [h3] at h1
          simpa [Bool.and_assoc] using h1, by (repeat (first | (with_reducible exact LaterOf.refl _) | (with_reducible refine LaterOf.alloc ?_ _) | (with_reducible refine LaterOf.drew ?_) | (with_reducible refine LaterOf.drewN ?_ _) | (with_reducible refine LaterOf.later ?_ _) | (with_reducible refine LaterOf.setCell ?_ (by first | exact Nat.le_refl _ | (simp; done) | omega | (simp; omega)) _)))⟩
        case round =>
          obtain ⟨k, hk, hgas2, rfl, hfin2, ⟨v, rfl⟩⟩ := hrel
          have hl2 := HF.out.2.2.len
          (try simp only at hl2)
          have k1 : v.wd.cell? ⟨g, off + i, none⟩ = some (.slice xA xs.length xcc) := by simp [go_sem, *]
          by_cases hlt2 : k < xs.length
          · have hv0 := HF.out.2.2.row.of (w' := v.wd) (by (repeat (first | (with_reducible exact SinceOf.refl _) | (with_reducible assumption) | (with_reducible refine SinceOf.alloc ?_ _) | (with_reducible refine SinceOf.drew ?_) | (with_reducible refine SinceOf.drewN ?_ _) | (with_reducible refine SinceOf.later ?_ _) | (with_reducible refine SinceOf.further ?_ _) | (with_reducible refine SinceOf.setCell ?_ (by first | exact Nat.le_refl _ | (simp; done) | omega | (simp; omega)) _))))
            simp only at hv0
            obtain ⟨g2, off2, rfl, hr2⟩ := hv0.at_ (by omega)
            have hO2 := hr2.there
            have v0 := hr2.v0 k hlt2
            have v1 := hr2.v1 k hlt2
            rw [all_drop _ hlt2] at hfin2
            generalize xs[k] = p at *
            obtain ⟨px, py⟩ := p
            simp only at v0 v1 hfin2
            have W1 := WI px py
            obtain ⟨wb, hwb⟩ : ∃ b, b = withinB px py 60 := ⟨_, rfl⟩
            rw [← hwb] at W1 hfin2
            have HG := Lib.hid hfin2
            clear hfin2 hwb hr2 hv0
            go_wp2_with fail
            refine (W1 _).calls.mono ?_
            rintro e _ ⟨rfl, v2, rfl⟩
            clear W1
            cases wb
            · obtain rfl : res = false := by simpa using HG.out.symm
              go_wp2_with fail
              go_returns
              exact ⟨rfl, by (repeat (first | (with_reducible exact LaterOf.refl _) | (with_reducible refine LaterOf.alloc ?_ _) | (with_reducible refine LaterOf.drew ?_) | (with_reducible refine LaterOf.drewN ?_ _) | (with_reducible refine LaterOf.later ?_ _) | (with_reducible refine LaterOf.setCell ?_ (by first | exact Nat.le_refl _ | (simp; done) | omega | (simp; omega)) _)))⟩
            · go_wp2_with fail
              go_roundg (xs.length - (k + 1))
              case measure => omega
              case rel => exact ⟨k + 1, hlt2, Nat.le_refl _, by go_num, by simpa using HG.out, by (repeat (first | (with_reducible exact LaterOf.refl _) | (with_reducible refine LaterOf.alloc ?_ _) | (with_reducible refine LaterOf.drew ?_) | (with_reducible refine LaterOf.drewN ?_ _) | (with_reducible refine LaterOf.later ?_ _) | (with_reducible refine LaterOf.setCell ?_ (by first | exact Nat.le_refl _ | (simp; done) | omega | (simp; omega)) _)))⟩
          · obtain rfl : k = xs.length := by omega
            rw [List.drop_length, List.all_nil, Bool.true_and] at hfin2
            have HG := Lib.hid hfin2
            clear hfin2
            go_wp2_with fail
            go_roundg (X.length - (i + 1))
            case measure => omega
            case rel => exact ⟨i + 1, hlt, Nat.le_refl _, by go_num, HG.out, by (repeat (first | (with_reducible exact LaterOf.refl _) | (with_reducible refine LaterOf.alloc ?_ _) | (with_reducible refine LaterOf.drew ?_) | (with_reducible refine LaterOf.drewN ?_ _) | (with_reducible refine LaterOf.later ?_ _) | (with_reducible refine LaterOf.setCell ?_ (by first | exact Nat.le_refl _ | (simp; done) | omega | (simp; omega)) _)))⟩
    · obtain rfl : i = X.length := by omega
      rw [show (vxs X).drop X.length = [] by rw [← vxs_len X]; exact List.drop_length, List.all_nil, Bool.true_and] at hfin
      have g1 : decide ((X.length : Int) ≤ 5) = res := by rw [← hfin, decide_eq_decide]; omega
      clear hfin
      go_wp2_with fail
      go_returns
      exact ⟨by first | rfl | simp [g1], by (repeat (first | (with_reducible exact LaterOf.refl _) | (with_reducible refine LaterOf.alloc ?_ _) | (with_reducible refine LaterOf.drew ?_) | (with_reducible refine LaterOf.drewN ?_ _) | (with_reducible refine LaterOf.later ?_ _) | (with_reducible refine LaterOf.setCell ?_ (by first | exact Nat.le_refl _ | (simp; done) | omega | (simp; omega)) _)))⟩
set_option maxRecDepth 100000 in
set_option maxHeartbeats 16000000 in
theorem jointOnce_any (A : Option Addr) (c : Nat) (X : List RgR) (w : World) (h : IsRings w A c X) (hcap : X.length ≤ c) :
    Yields Tryz.prog 4 #[.slice A X.length c] w (.bool true) := by
  apply Yields.ret
  have hlen := h.len
  have AW := awake46_any
  have FW := fun W (hW : SinceOf w W) => few46_any A c X W (h.of hW)
  have OP := fun W (hW : SinceOf w W) => once_any A c X W (h.of hW)
  have OR := fun W (hW : SinceOf w W) => refOnce_any A c X W (h.of hW) hcap
  have H := Lib.hid h
  clear h
  generalize fewX (vxs X) = fw at FW
  generalize onceR (vxs X) = res at OP OR
  go_enter Tryz.func4, Tryz.ntmps4
  go_wp2_with fail
  refine (AW _).calls.mono ?_
  rintro e _ ⟨rfl, x1, rfl⟩
  clear AW
  go_wp2_with fail
  refine (FW _ (by (repeat (first | (with_reducible exact SinceOf.refl _) | (with_reducible assumption) | (with_reducible refine SinceOf.alloc ?_ _) | (with_reducible refine SinceOf.drew ?_) | (with_reducible refine SinceOf.drewN ?_ _) | (with_reducible refine SinceOf.later ?_ _) | (with_reducible refine SinceOf.further ?_ _) | (with_reducible refine SinceOf.setCell ?_ (by first | exact Nat.le_refl _ | (simp; done) | omega | (simp; omega)) _))))).calls.mono ?_
  rintro e _ ⟨rfl, x2, rfl⟩
  clear FW
  cases fw
  · go_wp2_with fail
    go_returns
    exact ⟨rfl, by (repeat (first | (with_reducible exact SinceOf.refl _) | (with_reducible assumption) | (with_reducible refine SinceOf.alloc ?_ _) | (with_reducible refine SinceOf.drew ?_) | (with_reducible refine SinceOf.drewN ?_ _) | (with_reducible refine SinceOf.later ?_ _) | (with_reducible refine SinceOf.further ?_ _) | (with_reducible refine SinceOf.setCell ?_ (by first | exact Nat.le_refl _ | (simp; done) | omega | (simp; omega)) _)))⟩
  · go_wp2_with fail
    refine (OP _ (by (repeat (first | (with_reducible exact SinceOf.refl _) | (with_reducible assumption) | (with_reducible refine SinceOf.alloc ?_ _) | (with_reducible refine SinceOf.drew ?_) | (with_reducible refine SinceOf.drewN ?_ _) | (with_reducible refine SinceOf.later ?_ _) | (with_reducible refine SinceOf.further ?_ _) | (with_reducible refine SinceOf.setCell ?_ (by first | exact Nat.le_refl _ | (simp; done) | omega | (simp; omega)) _))))).mono ?_
    rintro e _ ⟨A1, c1, rfl, o1, l1, ⟨x3, rfl⟩⟩
    have H1 := Lib.hid (o1.isRow encE_len)
    clear o1 OP
    go_wp2_with fail
    refine (OR _ (by (repeat (first | (with_reducible exact SinceOf.refl _) | (with_reducible assumption) | (with_reducible refine SinceOf.alloc ?_ _) | (with_reducible refine SinceOf.drew ?_) | (with_reducible refine SinceOf.drewN ?_ _) | (with_reducible refine SinceOf.later ?_ _) | (with_reducible refine SinceOf.further ?_ _) | (with_reducible refine SinceOf.setCell ?_ (by first | exact Nat.le_refl _ | (simp; done) | omega | (simp; omega)) _))))).mono ?_
    rintro e _ ⟨A2, c2, rfl, o2, l2, ⟨x4, rfl⟩⟩
    have H2 := Lib.hid (o2.isRow encE_len)
    clear o2 OR
    have SS := fun W (hW : SinceOf x4.wd W) => sameSegs_any A1 A2 c1 c2 res.1 W (H1.out.of (SinceOf.trans (show SinceOf x3.wd x4.wd by (repeat (first | (with_reducible exact SinceOf.refl _) | (with_reducible assumption) | (with_reducible refine SinceOf.alloc ?_ _) | (with_reducible refine SinceOf.drew ?_) | (with_reducible refine SinceOf.drewN ?_ _) | (with_reducible refine SinceOf.later ?_ _) | (with_reducible refine SinceOf.further ?_ _) | (with_reducible refine SinceOf.setCell ?_ (by first | exact Nat.le_refl _ | (simp; done) | omega | (simp; omega)) _)))) hW)) (H2.out.of hW) (by omega)
    have L1 := fun W (hW : SinceOf x4.wd W) => length_any A1 c1 res.1 W (H1.out.of (SinceOf.trans (show SinceOf x3.wd x4.wd by (repeat (first | (with_reducible exact SinceOf.refl _) | (with_reducible assumption) | (with_reducible refine SinceOf.alloc ?_ _) | (with_reducible refine SinceOf.drew ?_) | (with_reducible refine SinceOf.drewN ?_ _) | (with_reducible refine SinceOf.later ?_ _) | (with_reducible refine SinceOf.further ?_ _) | (with_reducible refine SinceOf.setCell ?_ (by first | exact Nat.le_refl _ | (simp; done) | omega | (simp; omega)) _)))) hW)) (by omega)
    have L2 := fun W (hW : SinceOf x4.wd W) => refLength_any A2 c2 res.1 W (H2.out.of hW) (by omega)
    generalize lenE res.1 = le at L1 L2
    generalize res.1.length = rl at *
    generalize res.2 = re at *
    go_wp2_with fail
    refine (SS _ (by (repeat (first | (with_reducible exact SinceOf.refl _) | (with_reducible assumption) | (with_reducible refine SinceOf.alloc ?_ _) | (with_reducible refine SinceOf.drew ?_) | (with_reducible refine SinceOf.drewN ?_ _) | (with_reducible refine SinceOf.later ?_ _) | (with_reducible refine SinceOf.further ?_ _) | (with_reducible refine SinceOf.setCell ?_ (by first | exact Nat.le_refl _ | (simp; done) | omega | (simp; omega)) _))))).calls.mono ?_
    rintro e _ ⟨rfl, x5, rfl⟩
    go_wp2_with fail
    refine (L1 _ (by (repeat (first | (with_reducible exact SinceOf.refl _) | (with_reducible assumption) | (with_reducible refine SinceOf.alloc ?_ _) | (with_reducible refine SinceOf.drew ?_) | (with_reducible refine SinceOf.drewN ?_ _) | (with_reducible refine SinceOf.later ?_ _) | (with_reducible refine SinceOf.further ?_ _) | (with_reducible refine SinceOf.setCell ?_ (by first | exact Nat.le_refl _ | (simp; done) | omega | (simp; omega)) _))))).calls.mono ?_
    rintro e _ ⟨rfl, x6, rfl⟩
    go_wp2_with fail
    refine (L2 _ (by (repeat (first | (with_reducible exact SinceOf.refl _) | (with_reducible assumption) | (with_reducible refine SinceOf.alloc ?_ _) | (with_reducible refine SinceOf.drew ?_) | (with_reducible refine SinceOf.drewN ?_ _) | (with_reducible refine SinceOf.later ?_ _) | (with_reducible refine SinceOf.further ?_ _) | (with_reducible refine SinceOf.setCell ?_ (by first | exact Nat.le_refl _ | (simp; done) | omega | (simp; omega)) _))))).calls.mono ?_
    rintro e _ ⟨rfl, x7, rfl⟩
    clear SS L1 L2 H1 H2 l1 l2
    go_wp2_with fail
    go_loopg [7] X.length (fun gas s7 wr => ∃ i : Nat, 1 ≤ i ∧ X.length + 1 - i ≤ gas + 1 ∧ s7 = .int .i64 i ∧ SinceOf x7.wd wr)
    case atStart => exact ⟨1, by omega, by omega, rfl, by (repeat (first | (with_reducible exact SinceOf.refl _) | (with_reducible assumption) | (with_reducible refine SinceOf.alloc ?_ _) | (with_reducible refine SinceOf.drew ?_) | (with_reducible refine SinceOf.drewN ?_ _) | (with_reducible refine SinceOf.later ?_ _) | (with_reducible refine SinceOf.further ?_ _) | (with_reducible refine SinceOf.setCell ?_ (by first | exact Nat.le_refl _ | (simp; done) | omega | (simp; omega)) _)))⟩
    case round =>
      obtain ⟨i, h1, hgas, rfl, ⟨z, rfl⟩⟩ := hrel
      have hzs := z.size
      by_cases hlt : i < X.length
      · have hx0 := H.out.of (w' := z.wd) (by (repeat (first | (with_reducible exact SinceOf.refl _) | (with_reducible assumption) | (with_reducible refine SinceOf.alloc ?_ _) | (with_reducible refine SinceOf.drew ?_) | (with_reducible refine SinceOf.drewN ?_ _) | (with_reducible refine SinceOf.later ?_ _) | (with_reducible refine SinceOf.further ?_ _) | (with_reducible refine SinceOf.setCell ?_ (by first | exact Nat.le_refl _ | (simp; done) | omega | (simp; omega)) _))))
        obtain ⟨g, off, rfl, hr⟩ := hx0.row.at_ (by omega)
        have hO1 := hr.there
        have k0 := hr.g0 i hlt
        have k1 := hr.g0 (i - 1) (by omega)
        have hxa := hx0.all _ (List.getElem_mem (show i - 1 < X.length by omega))
        have hxb := hx0.all _ (List.getElem_mem hlt)
        obtain ⟨x, hx⟩ : ∃ x, x = X[i - 1]'(by omega) := ⟨_, rfl⟩
        obtain ⟨y, hy⟩ : ∃ y, y = X[i] := ⟨_, rfl⟩
        rw [← hx] at k1 hxa
        rw [← hy] at k0 hxb
        obtain ⟨j, hj⟩ : ∃ j, j = i - 1 := ⟨_, rfl⟩
        rw [← hj] at k1
        have S1 := fun W (hW : SinceOf z.wd W) => share_any x.A y.A x.c y.c x.xs y.xs W (hxa.row.of hW) (hxb.row.of hW) hxa.len hxb.len
        have S2 := fun W (hW : SinceOf z.wd W) => refShare_any x.A y.A x.c y.c x.xs y.xs W (hxa.row.of hW) (hxb.row.of hW) hxa.len hxb.len
        generalize shareR x.xs y.xs = sh at S1 S2
        obtain ⟨xA, xcc, xs⟩ := x
        obtain ⟨yA, ycc, ys⟩ := y
        simp only at k0 k1 S1 S2
        clear hxa hxb hr hx0 hx hy
        have e1 : IntKind.i64.wrap ((i : Int) - 1) = (j : Int) := by rw [IntWalk.i64_in _ (by omega)]; omega
        have b1 : (0 : Int) ≤ i := by omega
        have b2 : (i : Int) < X.length := by omega
        have b3 : (0 : Int) ≤ j := by omega
        have b4 : (j : Int) < X.length := by omega
        have HJ := Lib.hid hj
        clear hj
        go_upto_region 12 with fail
        go_cut [66] from 45 to 66 (fun s66 wx => s66 = .bool false ∧ SinceOf z.wd wx)
        case first =>
          go_region_held3 (fun w' => w'.cell? ⟨g, off + j, none⟩ = some (.slice xA xs.length xcc) ∧ w'.cell? ⟨g, off + i, none⟩ = some (.slice yA ys.length ycc)) ((simp [go_sem, *]))
            (first
              | (go_at_call 20; (with_reducible refine (S1 _ (by (repeat (first | (with_reducible exact SinceOf.refl _) | (with_reducible assumption) | (with_reducible refine SinceOf.alloc ?_ _) | (with_reducible refine SinceOf.drew ?_) | (with_reducible refine SinceOf.drewN ?_ _) | (with_reducible refine SinceOf.later ?_ _) | (with_reducible refine SinceOf.further ?_ _) | (with_reducible refine SinceOf.setCell ?_ (by first | exact Nat.le_refl _ | (simp; done) | omega | (simp; omega)) _))))).mono ?_); rintro e _ ⟨A4, c4, rfl, ho4, hl4, ⟨y4, rfl⟩⟩; have hr4 := ho4.isRow encE_len; clear ho4)
              | (go_at_call 21; (with_reducible refine (S2 _ (by (repeat (first | (with_reducible exact SinceOf.refl _) | (with_reducible assumption) | (with_reducible refine SinceOf.alloc ?_ _) | (with_reducible refine SinceOf.drew ?_) | (with_reducible refine SinceOf.drewN ?_ _) | (with_reducible refine SinceOf.later ?_ _) | (with_reducible refine SinceOf.further ?_ _) | (with_reducible refine SinceOf.setCell ?_ (by first | exact Nat.le_refl _ | (simp; done) | omega | (simp; omega)) _))))).mono ?_); rintro e _ ⟨A5, c5, rfl, ho5, hl5, ⟨y5, rfl⟩⟩; have hr5 := ho5.isRow encE_len; clear ho5)
              | (go_at_call 12; refine (sameSegs_any A4 A5 c4 c5 sh _ (hr4.of (by (repeat (first | (with_reducible exact SinceOf.refl _) | (with_reducible assumption) | (with_reducible refine SinceOf.alloc ?_ _) | (with_reducible refine SinceOf.drew ?_) | (with_reducible refine SinceOf.drewN ?_ _) | (with_reducible refine SinceOf.later ?_ _) | (with_reducible refine SinceOf.further ?_ _) | (with_reducible refine SinceOf.setCell ?_ (by first | exact Nat.le_refl _ | (simp; done) | omega | (simp; omega)) _))))) (hr5.of (by (repeat (first | (with_reducible exact SinceOf.refl _) | (with_reducible assumption) | (with_reducible refine SinceOf.alloc ?_ _) | (with_reducible refine SinceOf.drew ?_) | (with_reducible refine SinceOf.drewN ?_ _) | (with_reducible refine SinceOf.later ?_ _) | (with_reducible refine SinceOf.further ?_ _) | (with_reducible refine SinceOf.setCell ?_ (by first | exact Nat.le_refl _ | (simp; done) | omega | (simp; omega)) _))))) (by omega)).calls.mono ?_; rintro e _ ⟨rfl, y6, rfl⟩))
          all_goals
            go_wp2_with fail
            go_meet
            exact ⟨by first | rfl | simp, by (repeat (first | (with_reducible exact SinceOf.refl _) | (with_reducible assumption) | (with_reducible refine SinceOf.alloc ?_ _) | (with_reducible refine SinceOf.drew ?_) | (with_reducible refine SinceOf.drewN ?_ _) | (with_reducible refine SinceOf.later ?_ _) | (with_reducible refine SinceOf.further ?_ _) | (with_reducible refine SinceOf.setCell ?_ (by first | exact Nat.le_refl _ | (simp; done) | omega | (simp; omega)) _)))⟩
        case rest =>
          obtain ⟨rfl, ⟨z2, rfl⟩⟩ := hcut
          clear S1 S2 k0 k1
          go_wp2_with fail
          go_roundg (X.length - (i + 1))
          case measure => omega
          case rel => exact ⟨i + 1, by omega, by omega, by go_num, by (repeat (first | (with_reducible exact SinceOf.refl _) | (with_reducible assumption) | (with_reducible refine SinceOf.alloc ?_ _) | (with_reducible refine SinceOf.drew ?_) | (with_reducible refine SinceOf.drewN ?_ _) | (with_reducible refine SinceOf.later ?_ _) | (with_reducible refine SinceOf.further ?_ _) | (with_reducible refine SinceOf.setCell ?_ (by first | exact Nat.le_refl _ | (simp; done) | omega | (simp; omega)) _)))⟩
      · go_wp2_with fail
        go_returns
        exact ⟨rfl, by (repeat (first | (with_reducible exact SinceOf.refl _) | (with_reducible assumption) | (with_reducible refine SinceOf.alloc ?_ _) | (with_reducible refine SinceOf.drew ?_) | (with_reducible refine SinceOf.drewN ?_ _) | (with_reducible refine SinceOf.later ?_ _) | (with_reducible refine SinceOf.further ?_ _) | (with_reducible refine SinceOf.setCell ?_ (by first | exact Nat.le_refl _ | (simp; done) | omega | (simp; omega)) _)))⟩
end Go.Proofs.YtkpnffokjpgalaaGreat
