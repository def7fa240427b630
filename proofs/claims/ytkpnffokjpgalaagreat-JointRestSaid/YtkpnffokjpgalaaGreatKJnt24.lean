/- Layer 46: Once of the program. -/
import Derived.Test.YtkpnffokjpgalaaGreatKJnt23
import Derived.Test.YtkpnffokjpgalaaGreatKJntQ1
namespace Go.Proofs.YtkpnffokjpgalaaGreat
set_option linter.unusedVariables false
set_option linter.unusedSimpArgs false
open Go.RowKit Go.Sort
attribute [local go_sem ↓] Go.wp_at_zero Go.wp_at_succ

theorem vxs_at {X : List RgR} {k : Nat} (h : k < X.length) : (vxs X)[k]'(by rw [vxs_len]; exact h) = X[k].xs := by simp [vxs]
set_option maxRecDepth 100000 in
set_option maxHeartbeats 4000000 in
theorem once1_any (A : Option Addr) (c : Nat) (r : List Pt) (w : World) (h : IsVecs w A c r) (hlen : r.length < 4611686018427387904) : Yields Tryz.prog 50 #[.slice A r.length c] w (.bool (!okB r)) := by
  apply Yields.ret
  have V := ringValid_any A c r w h hlen
  generalize okB r = b at *
  clear h
  go_enter Tryz.func50, Tryz.ntmps50
  go_wp2_with fail
  refine V.calls.mono ?_
  rintro e _ ⟨rfl, x1, rfl⟩
  go_wp2_with fail
  go_returns
  exact ⟨rfl, by (repeat (first | (with_reducible exact SinceOf.refl _) | (with_reducible assumption) | (with_reducible refine SinceOf.alloc ?_ _) | (with_reducible refine SinceOf.drew ?_) | (with_reducible refine SinceOf.drewN ?_ _) | (with_reducible refine SinceOf.later ?_ _) | (with_reducible refine SinceOf.further ?_ _) | (with_reducible refine SinceOf.setCell ?_ (by first | exact Nat.le_refl _ | (simp; done) | omega | (simp; omega)) _)))⟩
set_option maxRecDepth 100000 in
set_option maxHeartbeats 4000000 in
theorem indexOnce_any (A : Option Addr) (c : Nat) (X : List RgR) (w : World) (h : IsRings w A c X) :
    Calls Tryz.prog 86 #[.slice A X.length c, .func (.func 50) #[] #[]] w fun e w' => ∃ r : Int, e = .returned (.int .i64 r) ∧ decide (0 ≤ r) = (vxs X).any (fun r => !okB r) ∧ SinceOf w w' := by
  have hlen := h.len
  have H := Lib.hid h
  clear h
  go_enter Tryz.func86, Tryz.ntmps86
  go_wp2_with fail
  go_loopg [8] X.length (fun gas s8 wr => ∃ k : Nat, k ≤ X.length ∧ X.length - k ≤ gas ∧ s8 = .int .i64 k ∧ SinceOf w wr ∧ (vxs X).any (fun r => !okB r) = ((vxs X).drop k).any (fun r => !okB r))
  case atStart => exact ⟨0, by omega, by omega, rfl, by (repeat (first | (with_reducible exact SinceOf.refl _) | (with_reducible assumption) | (with_reducible refine SinceOf.alloc ?_ _) | (with_reducible refine SinceOf.drew ?_) | (with_reducible refine SinceOf.drewN ?_ _) | (with_reducible refine SinceOf.later ?_ _) | (with_reducible refine SinceOf.further ?_ _) | (with_reducible refine SinceOf.setCell ?_ (by first | exact Nat.le_refl _ | (simp; done) | omega | (simp; omega)) _))), by rw [List.drop_zero]⟩
  case round =>
    obtain ⟨k, hk, hgas, rfl, ⟨z, rfl⟩, hany⟩ := hrel
    by_cases hlt : k < X.length
    · have hx0 := H.out.of (w' := z.wd) (by (repeat (first | (with_reducible exact SinceOf.refl _) | (with_reducible assumption) | (with_reducible refine SinceOf.alloc ?_ _) | (with_reducible refine SinceOf.drew ?_) | (with_reducible refine SinceOf.drewN ?_ _) | (with_reducible refine SinceOf.later ?_ _) | (with_reducible refine SinceOf.further ?_ _) | (with_reducible refine SinceOf.setCell ?_ (by first | exact Nat.le_refl _ | (simp; done) | omega | (simp; omega)) _))))
      obtain ⟨g, off, rfl, hr⟩ := hx0.row.at_ (by omega)
      have hO1 := hr.there
      have k0 := hr.g0 k hlt
      have C := once1_any X[k].A X[k].c X[k].xs z.wd (hx0.all _ (List.getElem_mem hlt)).row (hx0.all _ (List.getElem_mem hlt)).len
      have hd : (vxs X).drop k = X[k].xs :: (vxs X).drop (k + 1) := by
        rw [List.drop_eq_getElem_cons (by rw [vxs_len]; exact hlt), vxs_at hlt]
      rw [hd, List.any_cons] at hany
      generalize X[k] = x at *
      generalize okB x.xs = t at *
      clear hr hx0 hd
      cases t
      · rw [Bool.not_false, Bool.true_or] at hany
        rw [Bool.not_false] at C
        have HA := Lib.hid hany
        clear hany
        go_wp2_with fail
        refine C.calls.mono ?_
        rintro e _ ⟨rfl, x1, rfl⟩
        go_wp2_with fail
        go_returns
        exact ⟨(k : Int), rfl, by rw [HA.out]; simp, by (repeat (first | (with_reducible exact SinceOf.refl _) | (with_reducible assumption) | (with_reducible refine SinceOf.alloc ?_ _) | (with_reducible refine SinceOf.drew ?_) | (with_reducible refine SinceOf.drewN ?_ _) | (with_reducible refine SinceOf.later ?_ _) | (with_reducible refine SinceOf.further ?_ _) | (with_reducible refine SinceOf.setCell ?_ (by first | exact Nat.le_refl _ | (simp; done) | omega | (simp; omega)) _)))⟩
      · rw [Bool.not_true, Bool.false_or] at hany
        rw [Bool.not_true] at C
        have HA := Lib.hid hany
        clear hany
        go_wp2_with fail
        refine C.calls.mono ?_
        rintro e _ ⟨rfl, x1, rfl⟩
        go_wp2_with fail
        go_roundg (X.length - (k + 1))
        case measure => omega
        case rel => exact ⟨k + 1, hlt, Nat.le_refl _, by go_num, by (repeat (first | (with_reducible exact SinceOf.refl _) | (with_reducible assumption) | (with_reducible refine SinceOf.alloc ?_ _) | (with_reducible refine SinceOf.drew ?_) | (with_reducible refine SinceOf.drewN ?_ _) | (with_reducible refine SinceOf.later ?_ _) | (with_reducible refine SinceOf.further ?_ _) | (with_reducible refine SinceOf.setCell ?_ (by first | exact Nat.le_refl _ | (simp; done) | omega | (simp; omega)) _))), HA.out⟩
    · have hkl : k = X.length := by omega
      rw [hkl, List.drop_of_length_le (by rw [vxs_len]; exact Nat.le_refl _)] at hany
      have HA := Lib.hid hany
      clear hany
      go_wp2_with fail
      go_returns
      exact ⟨-1, rfl, by rw [HA.out]; rfl, by (repeat (first | (with_reducible exact SinceOf.refl _) | (with_reducible assumption) | (with_reducible refine SinceOf.alloc ?_ _) | (with_reducible refine SinceOf.drew ?_) | (with_reducible refine SinceOf.drewN ?_ _) | (with_reducible refine SinceOf.later ?_ _) | (with_reducible refine SinceOf.further ?_ _) | (with_reducible refine SinceOf.setCell ?_ (by first | exact Nat.le_refl _ | (simp; done) | omega | (simp; omega)) _)))⟩
set_option maxRecDepth 100000 in
set_option maxHeartbeats 4000000 in
theorem containsOnce_any (A : Option Addr) (c : Nat) (X : List RgR) (w : World) (h : IsRings w A c X) :
    Yields Tryz.prog 49 #[.slice A X.length c, .func (.func 50) #[] #[]] w (.bool (!(vxs X).all okB)) := by
  apply Yields.ret
  have C := indexOnce_any A c X w h
  have e : (vxs X).any (fun r => !okB r) = !(vxs X).all okB := by
    generalize vxs X = l
    induction l with
    | nil => rfl
    | cons r l ih => rw [List.any_cons, List.all_cons, ih, Bool.not_and]
  rw [e] at C
  generalize (!(vxs X).all okB) = b at *
  clear h e
  go_enter Tryz.func49, Tryz.ntmps49
  go_wp2_with fail
  refine C.mono ?_
  rintro e _ ⟨r, rfl, hr, x1, rfl⟩
  go_wp2_with fail
  go_returns
  exact ⟨rfl, by (repeat (first | (with_reducible exact SinceOf.refl _) | (with_reducible assumption) | (with_reducible refine SinceOf.alloc ?_ _) | (with_reducible refine SinceOf.drew ?_) | (with_reducible refine SinceOf.drewN ?_ _) | (with_reducible refine SinceOf.later ?_ _) | (with_reducible refine SinceOf.further ?_ _) | (with_reducible refine SinceOf.setCell ?_ (by first | exact Nat.le_refl _ | (simp; done) | omega | (simp; omega)) _)))⟩
end Go.Proofs.YtkpnffokjpgalaaGreat
/- Layer 46: Once of the program, whole. -/
namespace Go.Proofs.YtkpnffokjpgalaaGreat
set_option linter.unusedVariables false
set_option linter.unusedSimpArgs false
open Go.RowKit Go.Sort
attribute [local go_sem ↓] Go.wp_at_zero Go.wp_at_succ

/-- An owned row that another row's growth leaves alone. -/
theorem own_keep {base : Nat} {W w' : World} {A B B' : Option Addr} {c : Nat} {l : List SegP} (h : OwnSegs base W A c l) (ha : Apt A B) (hg : W.grownBy w' (blockOf B)) (hb : blockOf B' = blockOf B ∨ blockOf B' = some W.heap.size) : OwnSegs base w' A c l ∧ Apt A B' := by
  refine ⟨h.kept hg ?_, ha.grown (fun b hb => (h.below b hb).2) hb⟩
  cases e : blockOf A with
  | none => exact .inl rfl
  | some b => exact .inr (fun q => ha b e q.symm)
theorem leftK_8000 {s : SegP} (hs : IsSegN s) (D : List SegP) : (leftK s D).length ≤ 8000 := by
  have := leftK_len s D
  have := stepsK_small hs.2.1 hs.2.2 hs.1
  omega
theorem take_okB {rs : List (List Pt)} (h : rs.all okB = true) (i : Nat) : ∀ r ∈ rs.take i, okB r = true := fun r hr => List.all_eq_true.1 h r (List.mem_of_mem_take hr)
set_option maxRecDepth 100000 in
set_option maxHeartbeats 16000000 in
theorem once_any (A : Option Addr) (c : Nat) (X : List RgR) (w : World) (h : IsRings w A c X) :
    Calls Tryz.prog 16 #[.slice A X.length c] w fun e w' => ∃ A' c', e = .returned (.tuple #[.slice A' (onceR (vxs X)).1.length c', .int .i64 (onceR (vxs X)).2]) ∧ OwnSegs w.heap.size w' A' c' (onceR (vxs X)).1 ∧ (onceR (vxs X)).1.length ≤ 40000000 ∧ SinceOf w w' := by
  have hlen := h.len
  have CO := fun W (hW : SinceOf w W) => containsOnce_any A c X W (h.of hW)
  have H := Lib.hid h
  clear h
  by_cases h120 : 120 < X.length
  · have g1 : decide (120 < (X.length : Int)) = true := decide_eq_true (by omega)
    have hr : onceR (vxs X) = ([], 9) := by unfold onceR; rw [vxs_len, if_pos h120]
    rw [hr]
    clear hr h120 CO
    go_enter Tryz.func16, Tryz.ntmps16
    go_wp2_with fail
    go_returns
    exact ⟨none, 0, rfl, Owns.nil _ _ _ _ _, by simp, by (repeat (first | (with_reducible exact SinceOf.refl _) | (with_reducible assumption) | (with_reducible refine SinceOf.alloc ?_ _) | (with_reducible refine SinceOf.drew ?_) | (with_reducible refine SinceOf.drewN ?_ _) | (with_reducible refine SinceOf.later ?_ _) | (with_reducible refine SinceOf.further ?_ _) | (with_reducible refine SinceOf.setCell ?_ (by first | exact Nat.le_refl _ | (simp; done) | omega | (simp; omega)) _)))⟩
  have g1 : decide (120 < (X.length : Int)) = false := decide_eq_false (by omega)
  cases hall : (vxs X).all okB
  · have hr : onceR (vxs X) = ([], 11) := by unfold onceR; rw [vxs_len, if_neg h120, hall, if_neg Bool.false_ne_true]
    rw [hr]
    rw [hall] at CO
    clear hr h120 hall
    go_enter Tryz.func16, Tryz.ntmps16
    go_wp2_with fail
    refine (CO _ (by (repeat (first | (with_reducible exact SinceOf.refl _) | (with_reducible assumption) | (with_reducible refine SinceOf.alloc ?_ _) | (with_reducible refine SinceOf.drew ?_) | (with_reducible refine SinceOf.drewN ?_ _) | (with_reducible refine SinceOf.later ?_ _) | (with_reducible refine SinceOf.further ?_ _) | (with_reducible refine SinceOf.setCell ?_ (by first | exact Nat.le_refl _ | (simp; done) | omega | (simp; omega)) _))))).calls.mono ?_
    rintro e _ ⟨rfl, x1, rfl⟩
    go_wp2_with fail
    go_returns
    exact ⟨none, 0, rfl, Owns.nil _ _ _ _ _, by simp, by (repeat (first | (with_reducible exact SinceOf.refl _) | (with_reducible assumption) | (with_reducible refine SinceOf.alloc ?_ _) | (with_reducible refine SinceOf.drew ?_) | (with_reducible refine SinceOf.drewN ?_ _) | (with_reducible refine SinceOf.later ?_ _) | (with_reducible refine SinceOf.further ?_ _) | (with_reducible refine SinceOf.setCell ?_ (by first | exact Nat.le_refl _ | (simp; done) | omega | (simp; omega)) _)))⟩
  have hr : onceR (vxs X) = (onceF [] (vxs X), 0) := by unfold onceR; rw [vxs_len, if_neg h120, hall, if_pos rfl]
  rw [hr]
  rw [hall] at CO
  obtain ⟨i1, hi, hz0, hz1, hz2⟩ := info_parts infoSeg
  have HJ := Lib.hid (And.intro hi (And.intro hz0 (And.intro hz1 hz2)))
  have HA := Lib.hid hall
  clear hi hz0 hz1 hz2 hall hr
  go_enter Tryz.func16, Tryz.ntmps16
  go_wp2_with fail
  refine (CO _ (by (repeat (first | (with_reducible exact SinceOf.refl _) | (with_reducible assumption) | (with_reducible refine SinceOf.alloc ?_ _) | (with_reducible refine SinceOf.drew ?_) | (with_reducible refine SinceOf.drewN ?_ _) | (with_reducible refine SinceOf.later ?_ _) | (with_reducible refine SinceOf.further ?_ _) | (with_reducible refine SinceOf.setCell ?_ (by first | exact Nat.le_refl _ | (simp; done) | omega | (simp; omega)) _))))).calls.mono ?_
  rintro e _ ⟨rfl, x1, rfl⟩
  clear CO
  go_wp2_with fail
  go_loopg [4, 5, 18] X.length (fun gas s4 s5 s18 wr => ∃ (i : Nat) (A4 : Option Addr) (c4 : Nat) (O : List SegP) (A5 : Option Addr) (c5 : Nat) (D : List SegP), i ≤ X.length ∧ X.length - i ≤ gas ∧ s4 = .slice A4 O.length c4 ∧ s5 = .slice A5 D.length c5 ∧ s18 = .int .i64 i ∧ O = onceF [] ((vxs X).take i) ∧ D = cutL ((vxs X).take i) ∧ O.length ≤ i * 320000 ∧ OwnSegs w.heap.size wr A4 c4 O ∧ OwnSegs w.heap.size wr A5 c5 D ∧ Apt A4 A5 ∧ SinceOf w wr)
  case atStart => exact ⟨0, none, 0, [], none, 0, [], by omega, by omega, rfl, rfl, rfl, rfl, rfl, by simp, Owns.nil _ _ _ _ _, Owns.nil _ _ _ _ _, Apt.nil _, by (repeat (first | (with_reducible exact SinceOf.refl _) | (with_reducible assumption) | (with_reducible refine SinceOf.alloc ?_ _) | (with_reducible refine SinceOf.drew ?_) | (with_reducible refine SinceOf.drewN ?_ _) | (with_reducible refine SinceOf.later ?_ _) | (with_reducible refine SinceOf.further ?_ _) | (with_reducible refine SinceOf.setCell ?_ (by first | exact Nat.le_refl _ | (simp; done) | omega | (simp; omega)) _)))⟩
  case round =>
    obtain ⟨i, A4, c4, O, A5, c5, D, hi, hgas, rfl, rfl, rfl, hO, hD, hOl, hoO, hoD, hap, ⟨z, rfl⟩⟩ := hrel
    have hzs := z.size
    by_cases hlt : i < X.length
    · have hx0 := H.out.of (w' := z.wd) (by (repeat (first | (with_reducible exact SinceOf.refl _) | (with_reducible assumption) | (with_reducible refine SinceOf.alloc ?_ _) | (with_reducible refine SinceOf.drew ?_) | (with_reducible refine SinceOf.drewN ?_ _) | (with_reducible refine SinceOf.later ?_ _) | (with_reducible refine SinceOf.further ?_ _) | (with_reducible refine SinceOf.setCell ?_ (by first | exact Nat.le_refl _ | (simp; done) | omega | (simp; omega)) _))))
      obtain ⟨g, off, rfl, hr⟩ := hx0.row.at_ (by omega)
      have hO1 := hr.there
      have k0 := hr.g0 i hlt
      have hxr := hx0.all _ (List.getElem_mem hlt)
      have hlv : i < (vxs X).length := by rw [vxs_len]; exact hlt
      have hokx : okB X[i].xs = true := by rw [← vxs_at hlt]; exact List.all_eq_true.1 HA.out _ (List.getElem_mem hlv)
      have htk : (vxs X).take (i + 1) = (vxs X).take i ++ [X[i].xs] := by rw [List.take_succ_eq_append_getElem hlv, vxs_at hlt]
      have hDl : D.length ≤ i * 40 := by
        rw [hD]
        have := cutL_len (take_okB HA.out i)
        rw [List.length_take] at this
        have h2 : min i (vxs X).length * 40 ≤ i * 40 := Nat.mul_le_mul_right _ (Nat.min_le_left _ _)
        omega
      have hDn : ∀ s ∈ D, IsSegN s := by rw [hD]; exact cutL_edge (take_okB HA.out i)
      obtain ⟨hE1, hE2⟩ := okB_edgeN hokx
      have hEl := okB_len40 hokx
      have hof : onceF [] ((vxs X).take (i + 1)) = O ++ leftAll D (edgesV X[i].xs) := by rw [htk, onceF_snoc, hO, hD, hE1, List.nil_append]
      have hdf : cutL ((vxs X).take (i + 1)) = D ++ edgesV X[i].xs := by rw [htk, cutL_snoc, hD, hE1]
      have ED := fun W (hW : SinceOf z.wd W) => ringEdges_any X[i].A X[i].c X[i].xs W (hxr.row.of hW) (by have := (okB_iff.1 hokx).most; omega)
      obtain ⟨x, hx⟩ : ∃ x, x = X[i] := ⟨_, rfl⟩
      rw [← hx] at k0 ED hof hdf hE2 hEl
      generalize edgesV x.xs = E at *
      have HS := Lib.hid (And.intro hof (And.intro hdf (And.intro hDn (And.intro hE2 (And.intro hoO (And.intro hoD hap))))))
      obtain ⟨hE3, hE40⟩ := hEl
      obtain ⟨xA, xc, xs⟩ := x
      simp only at k0 ED
      clear hof hdf hDn hE1 hE2 hO hD hoO hoD hap hx0 hr hxr htk hokx hlv hx
      go_wp2_with fail
      refine (ED _ (by (repeat (first | (with_reducible exact SinceOf.refl _) | (with_reducible assumption) | (with_reducible refine SinceOf.alloc ?_ _) | (with_reducible refine SinceOf.drew ?_) | (with_reducible refine SinceOf.drewN ?_ _) | (with_reducible refine SinceOf.later ?_ _) | (with_reducible refine SinceOf.further ?_ _) | (with_reducible refine SinceOf.setCell ?_ (by first | exact Nat.le_refl _ | (simp; done) | omega | (simp; omega)) _))))).mono ?_
      rintro e _ ⟨A8, c8, rfl, ho8, ⟨z1, rfl⟩⟩
      have hz1 := z1.size
      have p8 : Apt A8 A4 := (Apt.older (fun b hb => (HS.out.2.2.2.2.1.below b hb).2) (fun b hb => (ho8.below b hb).1)).symm
      have H8 := Lib.hid (And.intro (ho8.isRow encE_len) p8)
      clear ED ho8 p8
      go_wp2_with fail
      go_loopg [4, 26] E.length (fun gas s4 s26 wr => ∃ (k : Nat) (A6 : Option Addr) (c6 : Nat) (O2 : List SegP), k ≤ E.length ∧ E.length - k ≤ gas ∧ s4 = .slice A6 O2.length c6 ∧ s26 = .int .i64 k ∧ O2 = O ++ leftAll D (E.take k) ∧ O2.length ≤ O.length + k * 8000 ∧ OwnSegs w.heap.size wr A6 c6 O2 ∧ OwnSegs w.heap.size wr A5 c5 D ∧ Apt A5 A6 ∧ IsSegs wr A8 c8 E ∧ Apt A8 A6 ∧ SinceOf w wr)
      case atStart => exact ⟨0, A4, c4, O, by omega, by omega, rfl, rfl, by simp [leftAll], by omega, HS.out.2.2.2.2.1.of (by (repeat (first | (with_reducible exact SinceOf.refl _) | (with_reducible assumption) | (with_reducible refine SinceOf.alloc ?_ _) | (with_reducible refine SinceOf.drew ?_) | (with_reducible refine SinceOf.drewN ?_ _) | (with_reducible refine SinceOf.later ?_ _) | (with_reducible refine SinceOf.further ?_ _) | (with_reducible refine SinceOf.setCell ?_ (by first | exact Nat.le_refl _ | (simp; done) | omega | (simp; omega)) _)))), HS.out.2.2.2.2.2.1.of (by (repeat (first | (with_reducible exact SinceOf.refl _) | (with_reducible assumption) | (with_reducible refine SinceOf.alloc ?_ _) | (with_reducible refine SinceOf.drew ?_) | (with_reducible refine SinceOf.drewN ?_ _) | (with_reducible refine SinceOf.later ?_ _) | (with_reducible refine SinceOf.further ?_ _) | (with_reducible refine SinceOf.setCell ?_ (by first | exact Nat.le_refl _ | (simp; done) | omega | (simp; omega)) _)))), HS.out.2.2.2.2.2.2.symm, H8.out.1, H8.out.2, by (repeat (first | (with_reducible exact SinceOf.refl _) | (with_reducible assumption) | (with_reducible refine SinceOf.alloc ?_ _) | (with_reducible refine SinceOf.drew ?_) | (with_reducible refine SinceOf.drewN ?_ _) | (with_reducible refine SinceOf.later ?_ _) | (with_reducible refine SinceOf.further ?_ _) | (with_reducible refine SinceOf.setCell ?_ (by first | exact Nat.le_refl _ | (simp; done) | omega | (simp; omega)) _)))⟩
      case round =>
        clear H8
        obtain ⟨k, A6, c6, O2, hk, hgas2, rfl, rfl, hO2, hO2l, hoO, hoD, hap, hrow, hap8, ⟨v, rfl⟩⟩ := hrel
        have hvs := v.size
        by_cases hlt2 : k < E.length
        · obtain ⟨g8, off8, rfl, hr⟩ := hrow.at_ (by omega)
          have hO8 := hr.there
          have a0 := hr.e0 k hlt2
          have a1 := hr.e1 k hlt2
          have a2 := hr.e2 k hlt2
          have a3 := hr.e3 k hlt2
          have hsn := HS.out.2.2.2.1 _ (List.getElem_mem hlt2)
          have hla : leftAll D (E.take (k + 1)) = leftAll D (E.take k) ++ leftK E[k] D := by rw [List.take_succ_eq_append_getElem hlt2, leftAll_snoc]
          have hl8 := leftK_8000 hsn D
          have LT := fun W (hW : SinceOf v.wd W) => left_any E[k] A5 c5 D W ((hoD.isRow encE_len).of hW) hsn HS.out.2.2.1 (by omega)
          obtain ⟨s, hs⟩ : ∃ s, s = E[k] := ⟨_, rfl⟩
          rw [← hs] at a0 a1 a2 a3 hla hl8 LT
          generalize leftK s D = LK at *
          have hnx : O ++ leftAll D (E.take (k + 1)) = O2 ++ LK := by rw [hla, hO2, List.append_assoc]
          have HW := Lib.hid (And.intro hoO (And.intro hoD (And.intro hap (And.intro hrow (And.intro hap8 hnx)))))
          obtain ⟨⟨sa, sb⟩, sc, sd⟩ := s
          simp only at a0 a1 a2 a3
          change ∀ W, SinceOf v.wd W → Calls _ _ #[sg sa sb sc sd, _] W _ at LT
          clear hoO hoD hap hrow hap8 hr hsn hla hs hO2 hnx
          go_wp2_with fail
          refine (LT _ (by (repeat (first | (with_reducible exact SinceOf.refl _) | (with_reducible assumption) | (with_reducible refine SinceOf.alloc ?_ _) | (with_reducible refine SinceOf.drew ?_) | (with_reducible refine SinceOf.drewN ?_ _) | (with_reducible refine SinceOf.later ?_ _) | (with_reducible refine SinceOf.further ?_ _) | (with_reducible refine SinceOf.setCell ?_ (by first | exact Nat.le_refl _ | (simp; done) | omega | (simp; omega)) _))))).mono ?_
          rintro e _ ⟨Am, cm', rfl, hom, ⟨v1, rfl⟩⟩
          have hv1 := v1.size
          simp only [World.size_alloc] at hv1
          have HM := Lib.hid (And.intro (hom.isRow encE_len) (And.intro (HW.out.2.1.of (w' := v1.wd) (by (repeat (first | (with_reducible exact SinceOf.refl _) | (with_reducible assumption) | (with_reducible refine SinceOf.alloc ?_ _) | (with_reducible refine SinceOf.drew ?_) | (with_reducible refine SinceOf.drewN ?_ _) | (with_reducible refine SinceOf.later ?_ _) | (with_reducible refine SinceOf.further ?_ _) | (with_reducible refine SinceOf.setCell ?_ (by first | exact Nat.le_refl _ | (simp; done) | omega | (simp; omega)) _))))) (HW.out.2.2.2.1.of (w' := v1.wd) (by (repeat (first | (with_reducible exact SinceOf.refl _) | (with_reducible assumption) | (with_reducible refine SinceOf.alloc ?_ _) | (with_reducible refine SinceOf.drew ?_) | (with_reducible refine SinceOf.drewN ?_ _) | (with_reducible refine SinceOf.later ?_ _) | (with_reducible refine SinceOf.further ?_ _) | (with_reducible refine SinceOf.setCell ?_ (by first | exact Nat.le_refl _ | (simp; done) | omega | (simp; omega)) _)))))))
          clear LT hom a0 a1 a2 a3
          go_wp2_with (at_builtin; refine wpList_append_row rfl (.tmp 30) (.tmp 33) 30 rfl encE_len (by omega) encE_one i1 _ 32 Tryz.underlying30 HJ.out.1 HJ.out.2.1 HJ.out.2.2.1 HJ.out.2.2.2 rfl (l := O2) (A := A6) (c := c6) (base := w.heap.size) rfl (HW.out.1.of (by (repeat (first | (with_reducible exact SinceOf.refl _) | (with_reducible assumption) | (with_reducible refine SinceOf.alloc ?_ _) | (with_reducible refine SinceOf.drew ?_) | (with_reducible refine SinceOf.drewN ?_ _) | (with_reducible refine SinceOf.later ?_ _) | (with_reducible refine SinceOf.further ?_ _) | (with_reducible refine SinceOf.setCell ?_ (by first | exact Nat.le_refl _ | (simp; done) | omega | (simp; omega)) _))))) (m := LK) rfl HM.out.1 (by unfold maxLen; omega) (by omega) (by omega) ?_; intro A7 c7 w7 ho7 hgr7 hb7)
          have k1 := own_keep HM.out.2.1 HW.out.2.2.1 hgr7 hb7
          have k2 := row_keep HM.out.2.2 (by omega) HW.out.2.2.2.2.1 hgr7 hb7
          have k4 : SinceOf w w7 := SinceOf.grown (by (repeat (first | (with_reducible exact SinceOf.refl _) | (with_reducible assumption) | (with_reducible refine SinceOf.alloc ?_ _) | (with_reducible refine SinceOf.drew ?_) | (with_reducible refine SinceOf.drewN ?_ _) | (with_reducible refine SinceOf.later ?_ _) | (with_reducible refine SinceOf.further ?_ _) | (with_reducible refine SinceOf.setCell ?_ (by first | exact Nat.le_refl _ | (simp; done) | omega | (simp; omega)) _)))) hgr7 (fun q hq => (HW.out.1.below q hq).1)
          have HK := Lib.hid (And.intro k1 (And.intro k2 (And.intro k4 ho7)))
          clear k1 k2 k4 ho7 hgr7 hb7
          go_wp2_with fail
          go_roundg (E.length - (k + 1))
          case measure => omega
          case rel => exact ⟨k + 1, A7, c7, O2 ++ LK, hlt2, Nat.le_refl _, (by first | rfl | simp), by go_num, HW.out.2.2.2.2.2.symm, by rw [List.length_append]; omega, HK.out.2.2.2, HK.out.1.1, HK.out.1.2, HK.out.2.1.1, HK.out.2.1.2, HK.out.2.2.1⟩
        · obtain rfl : k = E.length := by omega
          rw [List.take_length] at hO2
          have HW := Lib.hid (And.intro hoO (And.intro hoD (And.intro hap (And.intro hrow hO2))))
          have hO2b : O2.length ≤ O.length + E.length * 8000 := hO2l
          have hE8 : E.length * 8000 ≤ 320000 := by omega
          clear hoO hoD hap hrow hap8 hO2
          go_wp2_with (at_builtin; refine wpList_append_row rfl (.tmp 36) (.tmp 37) 30 rfl encE_len (by omega) encE_one i1 _ 32 Tryz.underlying30 HJ.out.1 HJ.out.2.1 HJ.out.2.2.1 HJ.out.2.2.2 rfl (l := D) (A := A5) (c := c5) (base := w.heap.size) rfl (HW.out.2.1.of (by (repeat (first | (with_reducible exact SinceOf.refl _) | (with_reducible assumption) | (with_reducible refine SinceOf.alloc ?_ _) | (with_reducible refine SinceOf.drew ?_) | (with_reducible refine SinceOf.drewN ?_ _) | (with_reducible refine SinceOf.later ?_ _) | (with_reducible refine SinceOf.further ?_ _) | (with_reducible refine SinceOf.setCell ?_ (by first | exact Nat.le_refl _ | (simp; done) | omega | (simp; omega)) _))))) (m := E) rfl HW.out.2.2.2.1 (by unfold maxLen; omega) (by omega) (by omega) ?_; intro A7 c7 w7 ho7 hgr7 hb7)
          have k1 := own_keep HW.out.1 HW.out.2.2.1.symm hgr7 hb7
          have k4 : SinceOf w w7 := SinceOf.grown (by (repeat (first | (with_reducible exact SinceOf.refl _) | (with_reducible assumption) | (with_reducible refine SinceOf.alloc ?_ _) | (with_reducible refine SinceOf.drew ?_) | (with_reducible refine SinceOf.drewN ?_ _) | (with_reducible refine SinceOf.later ?_ _) | (with_reducible refine SinceOf.further ?_ _) | (with_reducible refine SinceOf.setCell ?_ (by first | exact Nat.le_refl _ | (simp; done) | omega | (simp; omega)) _)))) hgr7 (fun q hq => (HW.out.2.1.below q hq).1)
          have HK := Lib.hid (And.intro k1 (And.intro k4 ho7))
          clear k1 k4 ho7 hgr7 hb7
          go_wp2_with fail
          go_roundg (X.length - (i + 1))
          case measure => omega
          case rel => exact ⟨i + 1, A6, c6, O2, A7, c7, D ++ E, hlt, Nat.le_refl _, rfl, (by first | rfl | simp), by go_num, by rw [HW.out.2.2.2.2]; exact HS.out.1.symm, HS.out.2.1.symm, by omega, HK.out.1.1, HK.out.2.2, HK.out.1.2, HK.out.2.1⟩
    · obtain rfl : i = X.length := by omega
      rw [List.take_of_length_le (by rw [vxs_len]; exact Nat.le_refl _)] at hO
      subst hO
      have HW := Lib.hid hoO
      clear hoO hoD hap
      have hOb : (onceF [] (vxs X)).length ≤ 40000000 := by omega
      go_wp2_with fail
      go_returns
      exact ⟨A4, c4, rfl, HW.out, hOb, by (repeat (first | (with_reducible exact SinceOf.refl _) | (with_reducible assumption) | (with_reducible refine SinceOf.alloc ?_ _) | (with_reducible refine SinceOf.drew ?_) | (with_reducible refine SinceOf.drewN ?_ _) | (with_reducible refine SinceOf.later ?_ _) | (with_reducible refine SinceOf.further ?_ _) | (with_reducible refine SinceOf.setCell ?_ (by first | exact Nat.le_refl _ | (simp; done) | omega | (simp; omega)) _)))⟩
end Go.Proofs.YtkpnffokjpgalaaGreat
