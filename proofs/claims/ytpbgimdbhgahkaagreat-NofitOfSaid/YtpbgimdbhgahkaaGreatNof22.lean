/- Layer 16: the reference's Negate, Of, Move, Same; NofitOf. -/
import Derived.Test.YtpbgimdbhgahkaaGreatNof19
import Derived.Test.YtpbgimdbhgahkaaGreatNof18
import Derived.Deep.RegionHeld3
namespace Go.Proofs.YtpbgimdbhgahkaaGreat
open Go.RowKit Go.Sort
set_option linter.unusedVariables false
set_option linter.unusedSimpArgs false
attribute [local go_sem ↓] Go.wp_at_zero Go.wp_at_succ

set_option maxRecDepth 100000 in
set_option maxHeartbeats 8000000 in
theorem refNegate15_any (A : Option Addr) (c : Nat) (r : List (Int × Int)) (w : World) (h : IsVecs w A c r) (hn : r.length < 4611686018427387904) :
    Calls Tryz.prog 20 #[.slice A r.length c] w fun e w' => ∃ A' c' out, e = .returned (.tuple #[.slice A' out.1.length c', .int .i64 out.2]) ∧ NegV r out ∧ NewRow w w' A' c' out.1 := by
  have V := fun W (hW : SinceOf w W) => refValid_any A c r W (h.of hW) hn
  have H := Lib.hid h
  clear h
  unfold NewRow
  cases hv : validB r
  · rw [hv] at V
    have HV := Lib.hid hv
    clear hv
    go_enter Tryz.func20, Tryz.ntmps20
    go_wp2_with fail
    refine (V _ (by (repeat (first | (with_reducible exact SinceOf.refl _) | (with_reducible assumption) | (with_reducible refine SinceOf.alloc ?_ _) | (with_reducible refine SinceOf.drew ?_) | (with_reducible refine SinceOf.drewN ?_ _) | (with_reducible refine SinceOf.later ?_ _) | (with_reducible refine SinceOf.further ?_ _) | (with_reducible refine SinceOf.setCell ?_ (by first | exact Nat.le_refl _ | (simp; done) | omega | (simp; omega)) _))))).calls.mono ?_
    rintro e _ ⟨rfl, x1, rfl⟩
    go_wp2_with fail
    go_returns
    exact ⟨none, 0, ([], 11), rfl, by unfold NegV; rw [HV.out]; rfl, IsRow.nil _ _ _, Nat.le_refl _, (fun b hb => by cases hb), by (repeat (first | (with_reducible exact SinceOf.refl _) | (with_reducible assumption) | (with_reducible refine SinceOf.alloc ?_ _) | (with_reducible refine SinceOf.drew ?_) | (with_reducible refine SinceOf.drewN ?_ _) | (with_reducible refine SinceOf.later ?_ _) | (with_reducible refine SinceOf.further ?_ _) | (with_reducible refine SinceOf.setCell ?_ (by first | exact Nat.le_refl _ | (simp; done) | omega | (simp; omega)) _)))⟩
  rw [hv] at V
  have hC := validB_iff.1 hv
  have r3 := hC.1
  have r160 := hC.2.1
  have HC := Lib.hid (And.intro hv hC)
  obtain ⟨i0, hi, hz0, hz1, hz2⟩ := info_parts infoVec
  have HI := Lib.hid (And.intro hi (And.intro hz0 (And.intro hz1 hz2)))
  clear hi hz0 hz1 hz2 hC hv hn
  go_enter Tryz.func20, Tryz.ntmps20
  go_wp2_with fail
  refine (V _ (by (repeat (first | (with_reducible exact SinceOf.refl _) | (with_reducible assumption) | (with_reducible refine SinceOf.alloc ?_ _) | (with_reducible refine SinceOf.drew ?_) | (with_reducible refine SinceOf.drewN ?_ _) | (with_reducible refine SinceOf.later ?_ _) | (with_reducible refine SinceOf.further ?_ _) | (with_reducible refine SinceOf.setCell ?_ (by first | exact Nat.le_refl _ | (simp; done) | omega | (simp; omega)) _))))).calls.mono ?_
  rintro e _ ⟨rfl, x1, rfl⟩
  clear V
  go_wp2_with fail
  go_loopg [4, 5] r.length (fun gas s4 s5 wr => ∃ (i : Nat) (A2 : Option Addr) (c2 : Nat), i ≤ r.length ∧ r.length - i ≤ gas ∧ s4 = .slice A2 i c2 ∧ s5 = .int .i64 i ∧ OwnVecs w.heap.size wr A2 c2 ((r.map negP).take i) ∧ SinceOf w wr)
  case atStart => exact ⟨0, none, 0, by omega, by omega, rfl, rfl, Owns.nil _ _ _ _ _, by (repeat (first | (with_reducible exact SinceOf.refl _) | (with_reducible assumption) | (with_reducible refine SinceOf.alloc ?_ _) | (with_reducible refine SinceOf.drew ?_) | (with_reducible refine SinceOf.drewN ?_ _) | (with_reducible refine SinceOf.later ?_ _) | (with_reducible refine SinceOf.further ?_ _) | (with_reducible refine SinceOf.setCell ?_ (by first | exact Nat.le_refl _ | (simp; done) | omega | (simp; omega)) _)))⟩
  case round =>
    obtain ⟨i, A2, c2, hi, hgas, rfl, rfl, ho, ⟨z, rfl⟩⟩ := hrel
    have hzs := z.size
    by_cases hlt : i < r.length
    · have hr0 := H.out.of (w' := z.wd) (by (repeat (first | (with_reducible exact SinceOf.refl _) | (with_reducible assumption) | (with_reducible refine SinceOf.alloc ?_ _) | (with_reducible refine SinceOf.drew ?_) | (with_reducible refine SinceOf.drewN ?_ _) | (with_reducible refine SinceOf.later ?_ _) | (with_reducible refine SinceOf.further ?_ _) | (with_reducible refine SinceOf.setCell ?_ (by first | exact Nat.le_refl _ | (simp; done) | omega | (simp; omega)) _))))
      obtain ⟨g, off, rfl, hr⟩ := hr0.at_ (by omega)
      have hO := hr.there
      have k0 := hr.v0 i hlt
      have k1 := hr.v1 i hlt
      have NG := refNeg_any r[i].1 r[i].2
      have en := wneg_near (near_mono (by omega) (HC.out.2.2.2.1 _ (List.getElem_mem hlt)) : near 16000 r[i])
      have hnx : (r.map negP).take (i + 1) = (r.map negP).take i ++ [negP r[i]] := by
        rw [List.take_succ_eq_append_getElem (by rw [List.length_map]; exact hlt), List.getElem_map]
      rw [← en] at hnx
      have hl0 : ((r.map negP).take i).length = i := by rw [List.length_take, List.length_map]; omega
      obtain ⟨L, hL⟩ : ∃ L, L = (r.map negP).take i := ⟨_, rfl⟩
      rw [← hL] at ho hnx hl0
      have HP := Lib.hid (And.intro ho (And.intro hnx hl0))
      clear ho hnx hl0 hL hr hr0 en
      generalize wneg r[i].1 = nx at *
      generalize wneg r[i].2 = ny at *
      generalize r[i].1 = px at *
      generalize r[i].2 = py at *
      go_wp2_with fail
      refine (NG _).calls.mono ?_
      rintro e _ ⟨rfl, x2, rfl⟩
      have hx2 := x2.size
      go_wp2_with (at_builtin; refine wpList_append_row rfl (.tmp 15) (.tmp 21) 41 rfl encV_len (by omega) encV_one i0 _ 16 Tryz.underlying41 HI.out.1 HI.out.2.1 HI.out.2.2.1 HI.out.2.2.2 rfl (l := L) (A := A2) (c := c2) (base := w.heap.size) (by rw [HP.out.2.2]; rfl) (HP.out.1.of (by (repeat (first | (with_reducible exact SinceOf.refl _) | (with_reducible assumption) | (with_reducible refine SinceOf.alloc ?_ _) | (with_reducible refine SinceOf.drew ?_) | (with_reducible refine SinceOf.drewN ?_ _) | (with_reducible refine SinceOf.later ?_ _) | (with_reducible refine SinceOf.further ?_ _) | (with_reducible refine SinceOf.setCell ?_ (by first | exact Nat.le_refl _ | (simp; done) | omega | (simp; omega)) _))))) (m := [(nx, ny)]) rfl (isRow_atV _ _ nx ny (by first | rfl | simp)) (by rw [HP.out.2.2]; unfold maxLen; simp; omega) (by rw [HP.out.2.2]; simp; omega) (by simp; omega) ?_; intro A5 c5 w5 ho5 hgr5 hb5)
      go_roundg (r.length - (i + 1))
      case measure => omega
      case rel => exact ⟨i + 1, A5, c5, hlt, Nat.le_refl _, (by have q := HP.out.2.2; first | rfl | simp [q]), by go_num, by rw [HP.out.2.1]; exact ho5, SinceOf.grown (by (repeat (first | (with_reducible exact SinceOf.refl _) | (with_reducible assumption) | (with_reducible refine SinceOf.alloc ?_ _) | (with_reducible refine SinceOf.drew ?_) | (with_reducible refine SinceOf.drewN ?_ _) | (with_reducible refine SinceOf.later ?_ _) | (with_reducible refine SinceOf.further ?_ _) | (with_reducible refine SinceOf.setCell ?_ (by first | exact Nat.le_refl _ | (simp; done) | omega | (simp; omega)) _)))) hgr5 (fun q hq => (HP.out.1.below q hq).1)⟩
    · obtain rfl : i = r.length := by omega
      rw [List.take_of_length_le (by rw [List.length_map]; exact Nat.le_refl _)] at ho
      have hlm : (r.map negP).length = r.length := List.length_map _
      have B := fun W (hW : SinceOf z.wd W) => refBegin_any A2 c2 (r.map negP) W ((ho.isRow encV_len).of hW) (by omega) (by omega) ho.le_cap
      rw [hlm] at B
      clear ho
      go_wp2_with fail
      refine (B _ (by (repeat (first | (with_reducible exact SinceOf.refl _) | (with_reducible assumption) | (with_reducible refine SinceOf.alloc ?_ _) | (with_reducible refine SinceOf.drew ?_) | (with_reducible refine SinceOf.drewN ?_ _) | (with_reducible refine SinceOf.later ?_ _) | (with_reducible refine SinceOf.further ?_ _) | (with_reducible refine SinceOf.setCell ?_ (by first | exact Nat.le_refl _ | (simp; done) | omega | (simp; omega)) _))))).mono ?_
      rintro e _ ⟨A3, c3, k, rfl, hk, hm, ho3, ⟨x3, rfl⟩⟩
      obtain ⟨m1, m2, m3⟩ := map_begun HC.out.2 det_neg (fun p hp => near_neg (HC.out.2.2.2.1 p hp)) hk hm
      have hcap := ho3.le_cap
      have HR := Lib.hid (And.intro (show NegV r (rotL k (r.map negP), 0) by unfold NegV; rw [if_pos HC.out.1]; exact ⟨m1, m3, rfl⟩) (And.intro (ho3.isRow encV_len) (And.intro m3 (fun b hb => Nat.le_trans hzs (ho3.below b hb).1))))
      rw [m3] at hcap
      clear B ho3 m1 m2 m3 hm
      go_wp2_with fail
      go_returns
      exact ⟨A3, c3, (rotL k (r.map negP), 0), by rw [HR.out.2.2.1]; rfl, HR.out.1, HR.out.2.1, by rw [HR.out.2.2.1]; exact hcap, HR.out.2.2.2, by (repeat (first | (with_reducible exact SinceOf.refl _) | (with_reducible assumption) | (with_reducible refine SinceOf.alloc ?_ _) | (with_reducible refine SinceOf.drew ?_) | (with_reducible refine SinceOf.drewN ?_ _) | (with_reducible refine SinceOf.later ?_ _) | (with_reducible refine SinceOf.further ?_ _) | (with_reducible refine SinceOf.setCell ?_ (by first | exact Nat.le_refl _ | (simp; done) | omega | (simp; omega)) _)))⟩
set_option maxRecDepth 100000 in
set_option maxHeartbeats 16000000 in
theorem refNofOf_any (A B : Option Addr) (c d : Nat) (X Y : List RgR) (w : World) (h : IsRings w A c X) (h2 : IsRings w B d Y) (hX : X.length ≤ 1000) (hY : Y.length ≤ 1000) :
    Calls Tryz.prog 7 #[.slice A X.length c, .slice B Y.length d] w fun e w' => ∃ B' d' Z err, e = .returned (.tuple #[.slice B' Z.length d', .int .i64 err]) ∧ OfV (vxs X) (vxs Y) (vxs Z, err) ∧ ListRes w w' B' d' Z := by
  have H := Lib.hid (And.intro h h2)
  clear h h2
  obtain ⟨i0, hi, hz0, hz1, hz2⟩ := info_parts infoRing
  have HI := Lib.hid (And.intro hi (And.intro hz0 (And.intro hz1 hz2)))
  clear hi hz0 hz1 hz2
  unfold ListRes
  have hprod : X.length * Y.length ≤ 1000 * 1000 := Nat.mul_le_mul hX hY
  obtain ⟨pr, hpr⟩ : ∃ pr, pr = X.length * Y.length := ⟨_, rfl⟩
  have epr : (X.length : Int) * (Y.length : Int) = (pr : Int) := by rw [hpr]; exact (Int.natCast_mul _ _).symm
  have wpr : IntKind.i64.wrap (pr : Int) = (pr : Int) := IntWalk.i64_in _ (by omega)
  have HPR := Lib.hid (show pr = (vxs X).length * (vxs Y).length by rw [vxs_len, vxs_len]; exact hpr)
  have hprb : pr ≤ 1000000 := by omega
  clear hpr hprod
  by_cases h1 : 10000 < pr
  · have g1 : decide ((10000 : Int) < (pr : Int)) = true := decide_eq_true (by omega)
    have HV := Lib.hid (show OfV (vxs X) (vxs Y) ([], 9) by unfold OfV; rw [if_pos (by rw [← HPR.out]; exact h1)])
    clear h1
    go_enter Tryz.func7, Tryz.ntmps7
    go_wp2_with fail
    go_returns
    exact ⟨none, 0, [], 9, rfl, HV.out, IsRings.nil _, (fun z hz => by cases hz), (fun b hb => by cases hb), Nat.le_refl _, by (repeat (first | (with_reducible exact SinceOf.refl _) | (with_reducible assumption) | (with_reducible refine SinceOf.alloc ?_ _) | (with_reducible refine SinceOf.drew ?_) | (with_reducible refine SinceOf.drewN ?_ _) | (with_reducible refine SinceOf.later ?_ _) | (with_reducible refine SinceOf.further ?_ _) | (with_reducible refine SinceOf.setCell ?_ (by first | exact Nat.le_refl _ | (simp; done) | omega | (simp; omega)) _)))⟩
  have g1 : decide ((10000 : Int) < (pr : Int)) = false := decide_eq_false (by omega)
  have HN := Lib.hid (show ∀ out n, NegP (vxs Y) [] n → (if n.2 = 0 then AllP (pairsOf (vxs X) n.1) [] out else out = ([], n.2)) → OfV (vxs X) (vxs Y) out from fun out n hn ho => by unfold OfV; rw [if_neg (by rw [← HPR.out]; exact h1)]; exact ⟨n, hn, ho⟩)
  clear h1
  go_enter Tryz.func7, Tryz.ntmps7
  go_wp2_with fail
  clear g1 epr wpr
  go_loopg [6, 7] Y.length (fun gas s6 s7 wr => ∃ (k : Nat) (A3 : Option Addr) (c3 n3 : Nat) (Z3 : List RgR), k ≤ Y.length ∧ Y.length - k ≤ gas ∧ n3 = Z3.length ∧ n3 = k ∧ s6 = .slice A3 n3 c3 ∧ s7 = .int .i64 k ∧ OwnRings w.heap.size wr A3 c3 Z3 ∧ (∀ z ∈ Z3, ∀ b, blockOf z.A = some b → w.heap.size ≤ b) ∧ (∀ out, NegP ((vxs Y).drop k) (vxs Z3) out → NegP (vxs Y) [] out) ∧ SinceOf w wr)
  case atStart => exact ⟨0, none, 0, 0, [], by omega, by omega, rfl, rfl, rfl, rfl, OwnRings.nil _ _, (fun z hz => by cases hz), fun out ho => ho, by (repeat (first | (with_reducible exact SinceOf.refl _) | (with_reducible assumption) | (with_reducible refine SinceOf.alloc ?_ _) | (with_reducible refine SinceOf.drew ?_) | (with_reducible refine SinceOf.drewN ?_ _) | (with_reducible refine SinceOf.later ?_ _) | (with_reducible refine SinceOf.further ?_ _) | (with_reducible refine SinceOf.setCell ?_ (by first | exact Nat.le_refl _ | (simp; done) | omega | (simp; omega)) _)))⟩
  case round =>
    obtain ⟨k, A3, c3, n3, Z3, hk, hgas, hn3, hnk, rfl, rfl, ho3, hf3, hp3, ⟨v, rfl⟩⟩ := hrel
    have hvs := v.size
    by_cases hlt : k < Y.length
    · have hy0 := H.out.2.of (w' := v.wd) (by (repeat (first | (with_reducible exact SinceOf.refl _) | (with_reducible assumption) | (with_reducible refine SinceOf.alloc ?_ _) | (with_reducible refine SinceOf.drew ?_) | (with_reducible refine SinceOf.drewN ?_ _) | (with_reducible refine SinceOf.later ?_ _) | (with_reducible refine SinceOf.further ?_ _) | (with_reducible refine SinceOf.setCell ?_ (by first | exact Nat.le_refl _ | (simp; done) | omega | (simp; omega)) _))))
      obtain ⟨g3, off3, rfl, hr3⟩ := hy0.row.at_ (by omega)
      have hO3 := hr3.there
      have m0 := hr3.g0 k hlt
      have hry : IsRing v.wd Y[k] := hy0.all _ (List.getElem_mem hlt)
      have hd : (vxs Y).drop k = Y[k].xs :: (vxs Y).drop (k + 1) := by
        rw [List.drop_eq_getElem_cons (by rw [vxs_len]; exact hlt), vxs_at hlt]
      rw [hd] at hp3
      obtain ⟨y, hy⟩ : ∃ y, y = Y[k] := ⟨_, rfl⟩
      rw [← hy] at m0 hry hp3
      have SU := fun W (hW : SinceOf v.wd W) => refNegate15_any y.A y.c y.xs W (hry.of hW).row hry.len
      have HQ := Lib.hid (And.intro ho3 (And.intro hn3 (And.intro hnk (And.intro hf3 hp3))))
      have hn3b : n3 ≤ 1000 := by omega
      clear ho3 hn3 hnk hf3 hp3 hry hy hr3 hy0 hd
      go_wp2_with fail
      refine (SU _ (by (repeat (first | (with_reducible exact SinceOf.refl _) | (with_reducible assumption) | (with_reducible refine SinceOf.alloc ?_ _) | (with_reducible refine SinceOf.drew ?_) | (with_reducible refine SinceOf.drewN ?_ _) | (with_reducible refine SinceOf.later ?_ _) | (with_reducible refine SinceOf.further ?_ _) | (with_reducible refine SinceOf.setCell ?_ (by first | exact Nat.le_refl _ | (simp; done) | omega | (simp; omega)) _))))).mono ?_
      rintro e _ ⟨A4, c4, o, rfl, hs4, hv4, hc4, hf4, ⟨x4, rfl⟩⟩
      have hx4 := x4.size
      by_cases h0 : o.2 = 0
      · have g0 : (o.2 != 0) = false := by simp [h0]
        have ok := hs4.canon h0
        have hpos : 0 < o.1.length := by have := ok.1.1; omega
        have hl160 := ok.1.2.1
        have hR : IsRing x4.wd ⟨A4, c4, o.1⟩ := ⟨hv4, by show o.1.length < _; omega, hc4⟩
        have hlt4 : ∀ b, blockOf A4 = some b → b < x4.wd.heap.size := fun b hb => hv4.block_lt hpos hb
        have hnew : ∀ out, NegP ((vxs Y).drop (k + 1)) (vxs (Z3 ++ [⟨A4, c4, o.1⟩])) out → NegP (vxs Y) [] out := fun out hout => by
          refine HQ.out.2.2.2.2 out ⟨o, hs4, ?_⟩
          rw [if_pos h0]
          have : vxs (Z3 ++ [⟨A4, c4, o.1⟩]) = vxs Z3 ++ [o.1] := by simp [vxs]
          rwa [this] at hout
        have HR := Lib.hid (And.intro hR (And.intro hlt4 (And.intro hnew hf4)))
        have hol : Z3.length = n3 := HQ.out.2.1.symm
        clear hs4 hv4 hf4 hR hlt4 hnew ok hpos h0 SU hc4
        obtain ⟨l4, hl4⟩ : ∃ l4, l4 = o.1 := ⟨_, rfl⟩
        rw [← hl4] at HR hl160 ⊢
        clear hl4
        generalize o.2 = er at *
        go_wp2_with (at_builtin; refine wpList_append_row rfl (.tmp 33) (.tmp 35) 22 rfl encG_len (by omega) encG_one i0 _ 24 Tryz.underlying22 HI.out.1 HI.out.2.1 HI.out.2.2.1 HI.out.2.2.2 rfl (l := Z3) (A := A3) (c := c3) (base := w.heap.size) (by rw [hol]; rfl) ((HQ.out.1.of (by (repeat (first | (with_reducible exact SinceOf.refl _) | (with_reducible assumption) | (with_reducible refine SinceOf.alloc ?_ _) | (with_reducible refine SinceOf.drew ?_) | (with_reducible refine SinceOf.drewN ?_ _) | (with_reducible refine SinceOf.later ?_ _) | (with_reducible refine SinceOf.further ?_ _) | (with_reducible refine SinceOf.setCell ?_ (by first | exact Nat.le_refl _ | (simp; done) | omega | (simp; omega)) _))))).own) (m := [⟨A4, c4, l4⟩]) rfl (isRow_atG _ _ ⟨A4, c4, l4⟩ (by first | rfl | simp)) (by rw [hol]; unfold maxLen; simp; omega) (by rw [hol]; simp; omega) (by simp; omega) ?_; intro A5 c5 w5 ho5 hgr5 hb5)
        have hpush := OwnRings.push ((HQ.out.1.of (w' := x4.wd) (by (repeat (first | (with_reducible exact SinceOf.refl _) | (with_reducible assumption) | (with_reducible refine SinceOf.alloc ?_ _) | (with_reducible refine SinceOf.drew ?_) | (with_reducible refine SinceOf.drewN ?_ _) | (with_reducible refine SinceOf.later ?_ _) | (with_reducible refine SinceOf.further ?_ _) | (with_reducible refine SinceOf.setCell ?_ (by first | exact Nat.le_refl _ | (simp; done) | omega | (simp; omega)) _))))).of (w' := x4.wd.alloc (.cells #[.slice A4 l4.length c4] 41)) (by (repeat (first | (with_reducible exact SinceOf.refl _) | (with_reducible assumption) | (with_reducible refine SinceOf.alloc ?_ _) | (with_reducible refine SinceOf.drew ?_) | (with_reducible refine SinceOf.drewN ?_ _) | (with_reducible refine SinceOf.later ?_ _) | (with_reducible refine SinceOf.further ?_ _) | (with_reducible refine SinceOf.setCell ?_ (by first | exact Nat.le_refl _ | (simp; done) | omega | (simp; omega)) _))))) (HR.out.1.of (w' := x4.wd.alloc (.cells #[.slice A4 l4.length c4] 41)) (by (repeat (first | (with_reducible exact SinceOf.refl _) | (with_reducible assumption) | (with_reducible refine SinceOf.alloc ?_ _) | (with_reducible refine SinceOf.drew ?_) | (with_reducible refine SinceOf.drewN ?_ _) | (with_reducible refine SinceOf.later ?_ _) | (with_reducible refine SinceOf.further ?_ _) | (with_reducible refine SinceOf.setCell ?_ (by first | exact Nat.le_refl _ | (simp; done) | omega | (simp; omega)) _))))) (fun b hb => ⟨by have := HR.out.2.1 b hb; simp; omega, fun e => by
          have q1 := (HQ.out.1.own.below b e).2
          have q2 := HR.out.2.2.2 b hb
          omega⟩) ho5 hgr5 hb5
        have HU := Lib.hid (And.intro hpush (SinceOf.grown (show SinceOf w (x4.wd.alloc (.cells #[.slice A4 l4.length c4] 41)) by (repeat (first | (with_reducible exact SinceOf.refl _) | (with_reducible assumption) | (with_reducible refine SinceOf.alloc ?_ _) | (with_reducible refine SinceOf.drew ?_) | (with_reducible refine SinceOf.drewN ?_ _) | (with_reducible refine SinceOf.later ?_ _) | (with_reducible refine SinceOf.further ?_ _) | (with_reducible refine SinceOf.setCell ?_ (by first | exact Nat.le_refl _ | (simp; done) | omega | (simp; omega)) _)))) hgr5 (fun q hq => (HQ.out.1.own.below q hq).1)))
        clear hpush ho5 hgr5 hb5
        go_roundg (Y.length - (k + 1))
        case measure => omega
        case rel =>
          refine ⟨k + 1, A5, c5, n3 + 1, Z3 ++ [⟨A4, c4, l4⟩], hlt, Nat.le_refl _, by simp [hol], by have := HQ.out.2.2.1; omega, (by first | rfl | (rw [hol]; try rfl)), by go_num, HU.out.1, fun q hq b hb => ?_, HR.out.2.2.1, HU.out.2⟩
          rcases List.mem_append.1 hq with hq | hq
          · exact HQ.out.2.2.2.1 q hq b hb
          · obtain rfl : q = ⟨A4, c4, l4⟩ := by simpa using hq
            have := HR.out.2.2.2 b hb
            omega
      · have g0 : (o.2 != 0) = true := by simpa using h0
        have hnew : NegP (vxs Y) [] ([], o.2) := HQ.out.2.2.2.2 _ ⟨o, hs4, by rw [if_neg h0]⟩
        have HR := Lib.hid (HN.out ([], o.2) _ hnew (by rw [if_neg h0]))
        clear hs4 hv4 hf4 hnew h0 SU hc4
        generalize o.2 = er at *
        go_wp2_with fail
        go_returns
        exact ⟨none, 0, [], er, rfl, HR.out, IsRings.nil _, (fun q hq => by cases hq), (fun b hb => by cases hb), Nat.le_refl _, by (repeat (first | (with_reducible exact SinceOf.refl _) | (with_reducible assumption) | (with_reducible refine SinceOf.alloc ?_ _) | (with_reducible refine SinceOf.drew ?_) | (with_reducible refine SinceOf.drewN ?_ _) | (with_reducible refine SinceOf.later ?_ _) | (with_reducible refine SinceOf.further ?_ _) | (with_reducible refine SinceOf.setCell ?_ (by first | exact Nat.le_refl _ | (simp; done) | omega | (simp; omega)) _)))⟩
    · obtain rfl : k = Y.length := by omega
      rw [List.drop_of_length_le (by rw [vxs_len]; exact Nat.le_refl _)] at hp3
      have hneg := hp3 _ (rfl : NegP [] (vxs Z3) (vxs Z3, 0))
      have hZb : Z3.length ≤ 1000 := by omega
      have AL := fun W (hW : SinceOf v.wd W) => refAll_any A A3 c c3 X Z3 W (H.out.1.of (SinceOf.trans ⟨v, rfl⟩ hW)) ((ho3.rings (by omega)).of hW) hX hZb
      rw [← hn3] at AL
      have HQ := Lib.hid hneg
      clear hp3 hneg ho3 hf3 hn3 hnk hZb
      go_wp2_with fail
      refine (AL _ (by (repeat (first | (with_reducible exact SinceOf.refl _) | (with_reducible assumption) | (with_reducible refine SinceOf.alloc ?_ _) | (with_reducible refine SinceOf.drew ?_) | (with_reducible refine SinceOf.drewN ?_ _) | (with_reducible refine SinceOf.later ?_ _) | (with_reducible refine SinceOf.further ?_ _) | (with_reducible refine SinceOf.setCell ?_ (by first | exact Nat.le_refl _ | (simp; done) | omega | (simp; omega)) _))))).mono ?_
      rintro e _ ⟨B1, d1, Z, err, rfl, hZ, hP, hf1, hf2, hd1, ⟨y1, rfl⟩⟩
      have HR := Lib.hid (And.intro hZ (And.intro (HN.out (vxs Z, err) _ HQ.out (by rw [if_pos rfl]; exact hP)) (And.intro (fun z hz b hb => Nat.le_trans hvs (hf1 z hz b hb)) (And.intro (fun b hb => Nat.le_trans hvs (hf2 b hb)) hd1))))
      clear hZ hP hf1 hf2 hd1 AL
      go_wp2_with fail
      go_returns
      exact ⟨B1, d1, Z, err, rfl, HR.out.2.1, HR.out.1, HR.out.2.2.1, HR.out.2.2.2.1, HR.out.2.2.2.2, by (repeat (first | (with_reducible exact SinceOf.refl _) | (with_reducible assumption) | (with_reducible refine SinceOf.alloc ?_ _) | (with_reducible refine SinceOf.drew ?_) | (with_reducible refine SinceOf.drewN ?_ _) | (with_reducible refine SinceOf.later ?_ _) | (with_reducible refine SinceOf.further ?_ _) | (with_reducible refine SinceOf.setCell ?_ (by first | exact Nat.le_refl _ | (simp; done) | omega | (simp; omega)) _)))⟩
set_option maxRecDepth 100000 in
set_option maxHeartbeats 16000000 in
theorem refNofMove_any (B : Option Addr) (d : Nat) (Y : List RgR) (vx vy : Int) (w : World) (h2 : IsRings w B d Y) (hY : Y.length ≤ 1000) :
    Calls Tryz.prog 9 #[.slice B Y.length d, vv vx vy] w fun e w' => ∃ B' d' Z err, e = .returned (.tuple #[.slice B' Z.length d', .int .i64 err]) ∧ MovP (vx, vy) (vxs Y) [] (vxs Z, err) ∧ ListRes w w' B' d' Z := by
  have H := Lib.hid h2
  clear h2
  obtain ⟨i0, hi, hz0, hz1, hz2⟩ := info_parts infoRing
  have HI := Lib.hid (And.intro hi (And.intro hz0 (And.intro hz1 hz2)))
  clear hi hz0 hz1 hz2
  unfold ListRes
  go_enter Tryz.func9, Tryz.ntmps9
  go_wp2_with fail
  have HVB := Lib.hid (VarV.new w vx vy 24)
  go_loopg [6, 7] Y.length (fun gas s6 s7 wr => ∃ (k : Nat) (A3 : Option Addr) (c3 n3 : Nat) (Z3 : List RgR), k ≤ Y.length ∧ Y.length - k ≤ gas ∧ n3 = Z3.length ∧ n3 = k ∧ s6 = .slice A3 n3 c3 ∧ s7 = .int .i64 k ∧ OwnRings (w.heap.size + 1) wr A3 c3 Z3 ∧ (∀ z ∈ Z3, ∀ b, blockOf z.A = some b → w.heap.size ≤ b) ∧ (∀ out, MovP (vx, vy) ((vxs Y).drop k) (vxs Z3) out → MovP (vx, vy) (vxs Y) [] out) ∧ SinceOf (w.alloc (.cells #[.int .i64 vx, .int .i64 vy] 24)) wr)
  case atStart => exact ⟨0, none, 0, 0, [], by omega, by omega, rfl, rfl, rfl, rfl, OwnRings.nil _ _, (fun z hz => by cases hz), fun out ho => ho, by (repeat (first | (with_reducible exact SinceOf.refl _) | (with_reducible assumption) | (with_reducible refine SinceOf.alloc ?_ _) | (with_reducible refine SinceOf.drew ?_) | (with_reducible refine SinceOf.drewN ?_ _) | (with_reducible refine SinceOf.later ?_ _) | (with_reducible refine SinceOf.further ?_ _) | (with_reducible refine SinceOf.setCell ?_ (by first | exact Nat.le_refl _ | (simp; done) | omega | (simp; omega)) _)))⟩
  case round =>
    obtain ⟨k, A3, c3, n3, Z3, hk, hgas, hn3, hnk, rfl, rfl, ho3, hf3, hp3, ⟨v, rfl⟩⟩ := hrel
    have hvs := v.size
    simp only [World.size_alloc] at hvs
    by_cases hlt : k < Y.length
    · have hy0 := H.out.of (w' := v.wd) (by (repeat (first | (with_reducible exact SinceOf.refl _) | (with_reducible assumption) | (with_reducible refine SinceOf.alloc ?_ _) | (with_reducible refine SinceOf.drew ?_) | (with_reducible refine SinceOf.drewN ?_ _) | (with_reducible refine SinceOf.later ?_ _) | (with_reducible refine SinceOf.further ?_ _) | (with_reducible refine SinceOf.setCell ?_ (by first | exact Nat.le_refl _ | (simp; done) | omega | (simp; omega)) _))))
      obtain ⟨g3, off3, rfl, hr3⟩ := hy0.row.at_ (by omega)
      have hO3 := hr3.there
      have m0 := hr3.g0 k hlt
      have VZ := HVB.out.of (W' := v.wd) (by (repeat (first | (with_reducible exact SinceOf.refl _) | (with_reducible assumption) | (with_reducible refine SinceOf.alloc ?_ _) | (with_reducible refine SinceOf.drew ?_) | (with_reducible refine SinceOf.drewN ?_ _) | (with_reducible refine SinceOf.later ?_ _) | (with_reducible refine SinceOf.further ?_ _) | (with_reducible refine SinceOf.setCell ?_ (by first | exact Nat.le_refl _ | (simp; done) | omega | (simp; omega)) _))))
      have q0 := VZ.c0
      have q1 := VZ.c1
      have hOv : Nonempty (Old v.wd w.heap.size) := ⟨⟨VZ.lt⟩⟩
      simp only at q0 q1
      have hry : IsRing v.wd Y[k] := hy0.all _ (List.getElem_mem hlt)
      have hd : (vxs Y).drop k = Y[k].xs :: (vxs Y).drop (k + 1) := by
        rw [List.drop_eq_getElem_cons (by rw [vxs_len]; exact hlt), vxs_at hlt]
      rw [hd] at hp3
      obtain ⟨y, hy⟩ : ∃ y, y = Y[k] := ⟨_, rfl⟩
      rw [← hy] at m0 hry hp3
      have SU := fun W (hW : SinceOf v.wd W) => refMove15_any y.A y.c y.xs vx vy W (hry.of hW).row hry.len
      have HQ := Lib.hid (And.intro ho3 (And.intro hn3 (And.intro hnk (And.intro hf3 hp3))))
      have hn3b : n3 ≤ 1000 := by omega
      clear ho3 hn3 hnk hf3 hp3 hry hy hr3 hy0 hd VZ
      go_wp2_with fail
      go_region_held3 (fun w' => (w'.cell? ⟨w.heap.size, 0, none⟩ = some (.int .i64 vx) ∧ w'.cell? ⟨w.heap.size, 1, none⟩ = some (.int .i64 vy)) ∧ w'.cell? ⟨g3, off3 + k, none⟩ = some (.slice y.A y.xs.length y.c)) ((simp [go_sem, *]))
        ((go_at_call 23; refine (SU _ (by (repeat (first | (with_reducible exact SinceOf.refl _) | (with_reducible assumption) | (with_reducible refine SinceOf.alloc ?_ _) | (with_reducible refine SinceOf.drew ?_) | (with_reducible refine SinceOf.drewN ?_ _) | (with_reducible refine SinceOf.later ?_ _) | (with_reducible refine SinceOf.further ?_ _) | (with_reducible refine SinceOf.setCell ?_ (by first | exact Nat.le_refl _ | (simp; done) | omega | (simp; omega)) _))))).mono ?_; rintro e _ ⟨A4, c4, o, rfl, hs4, hv4, hc4, hf4, ⟨x4, rfl⟩⟩))
      all_goals
        have hx4 := x4.size
        simp only [World.size_drew] at hx4 hf4
        by_cases h0 : o.2 = 0
        · have g0 : (o.2 != 0) = false := by simp [h0]
          have ok := hs4.canon h0
          have hpos : 0 < o.1.length := by have := ok.1.1; omega
          have hl160 := ok.1.2.1
          have hR : IsRing x4.wd ⟨A4, c4, o.1⟩ := ⟨hv4, by show o.1.length < _; omega, hc4⟩
          have hlt4 : ∀ b, blockOf A4 = some b → b < x4.wd.heap.size := fun b hb => hv4.block_lt hpos hb
          have hnew : ∀ out, MovP (vx, vy) ((vxs Y).drop (k + 1)) (vxs (Z3 ++ [⟨A4, c4, o.1⟩])) out → MovP (vx, vy) (vxs Y) [] out := fun out hout => by
            refine HQ.out.2.2.2.2 out ⟨o, hs4, ?_⟩
            rw [if_pos h0]
            have : vxs (Z3 ++ [⟨A4, c4, o.1⟩]) = vxs Z3 ++ [o.1] := by simp [vxs]
            rwa [this] at hout
          have HR := Lib.hid (And.intro hR (And.intro hlt4 (And.intro hnew hf4)))
          have hol : Z3.length = n3 := HQ.out.2.1.symm
          clear hs4 hv4 hf4 hR hlt4 hnew ok hpos h0 SU hc4
          obtain ⟨l4, hl4⟩ : ∃ l4, l4 = o.1 := ⟨_, rfl⟩
          rw [← hl4] at HR hl160 ⊢
          clear hl4
          generalize o.2 = er at *
          go_wp2_with (at_builtin; refine wpList_append_row rfl (.tmp 28) (.tmp 30) 31 rfl encG_len (by omega) encG_one i0 _ 24 Tryz.underlying31 HI.out.1 HI.out.2.1 HI.out.2.2.1 HI.out.2.2.2 rfl (l := Z3) (A := A3) (c := c3) (base := w.heap.size + 1) (by rw [hol]; rfl) ((HQ.out.1.of (by (repeat (first | (with_reducible exact SinceOf.refl _) | (with_reducible assumption) | (with_reducible refine SinceOf.alloc ?_ _) | (with_reducible refine SinceOf.drew ?_) | (with_reducible refine SinceOf.drewN ?_ _) | (with_reducible refine SinceOf.later ?_ _) | (with_reducible refine SinceOf.further ?_ _) | (with_reducible refine SinceOf.setCell ?_ (by first | exact Nat.le_refl _ | (simp; done) | omega | (simp; omega)) _))))).own) (m := [⟨A4, c4, l4⟩]) rfl (isRow_atG _ _ ⟨A4, c4, l4⟩ (by first | rfl | simp)) (by rw [hol]; unfold maxLen; simp; omega) (by rw [hol]; simp; omega) (by simp; omega) ?_; intro A5 c5 w5 ho5 hgr5 hb5)
          have hpush := OwnRings.push ((HQ.out.1.of (w' := x4.wd) (by (repeat (first | (with_reducible exact SinceOf.refl _) | (with_reducible assumption) | (with_reducible refine SinceOf.alloc ?_ _) | (with_reducible refine SinceOf.drew ?_) | (with_reducible refine SinceOf.drewN ?_ _) | (with_reducible refine SinceOf.later ?_ _) | (with_reducible refine SinceOf.further ?_ _) | (with_reducible refine SinceOf.setCell ?_ (by first | exact Nat.le_refl _ | (simp; done) | omega | (simp; omega)) _))))).of (w' := x4.wd.alloc (.cells #[.slice A4 l4.length c4] 41)) (by (repeat (first | (with_reducible exact SinceOf.refl _) | (with_reducible assumption) | (with_reducible refine SinceOf.alloc ?_ _) | (with_reducible refine SinceOf.drew ?_) | (with_reducible refine SinceOf.drewN ?_ _) | (with_reducible refine SinceOf.later ?_ _) | (with_reducible refine SinceOf.further ?_ _) | (with_reducible refine SinceOf.setCell ?_ (by first | exact Nat.le_refl _ | (simp; done) | omega | (simp; omega)) _))))) (HR.out.1.of (w' := x4.wd.alloc (.cells #[.slice A4 l4.length c4] 41)) (by (repeat (first | (with_reducible exact SinceOf.refl _) | (with_reducible assumption) | (with_reducible refine SinceOf.alloc ?_ _) | (with_reducible refine SinceOf.drew ?_) | (with_reducible refine SinceOf.drewN ?_ _) | (with_reducible refine SinceOf.later ?_ _) | (with_reducible refine SinceOf.further ?_ _) | (with_reducible refine SinceOf.setCell ?_ (by first | exact Nat.le_refl _ | (simp; done) | omega | (simp; omega)) _))))) (fun b hb => ⟨by have := HR.out.2.1 b hb; simp; omega, fun e => by
            have q1 := (HQ.out.1.own.below b e).2
            have q2 := HR.out.2.2.2 b hb
            omega⟩) ho5 hgr5 hb5
          have HU := Lib.hid (And.intro hpush (SinceOf.grown (show SinceOf (w.alloc (.cells #[.int .i64 vx, .int .i64 vy] 24)) (x4.wd.alloc (.cells #[.slice A4 l4.length c4] 41)) by (repeat (first | (with_reducible exact SinceOf.refl _) | (with_reducible assumption) | (with_reducible refine SinceOf.alloc ?_ _) | (with_reducible refine SinceOf.drew ?_) | (with_reducible refine SinceOf.drewN ?_ _) | (with_reducible refine SinceOf.later ?_ _) | (with_reducible refine SinceOf.further ?_ _) | (with_reducible refine SinceOf.setCell ?_ (by first | exact Nat.le_refl _ | (simp; done) | omega | (simp; omega)) _)))) hgr5 (fun q hq => by have := (HQ.out.1.own.below q hq).1; simpa using this)))
          clear hpush ho5 hgr5 hb5
          go_roundg (Y.length - (k + 1))
          case measure => omega
          case rel =>
            refine ⟨k + 1, A5, c5, n3 + 1, Z3 ++ [⟨A4, c4, l4⟩], hlt, Nat.le_refl _, by simp [hol], by have := HQ.out.2.2.1; omega, (by first | rfl | (rw [hol]; try rfl)), by go_num, HU.out.1, fun q hq b hb => ?_, HR.out.2.2.1, HU.out.2⟩
            rcases List.mem_append.1 hq with hq | hq
            · exact HQ.out.2.2.2.1 q hq b hb
            · obtain rfl : q = ⟨A4, c4, l4⟩ := by simpa using hq
              have := HR.out.2.2.2 b hb
              omega
        · have g0 : (o.2 != 0) = true := by simpa using h0
          have HR := Lib.hid (show MovP (vx, vy) (vxs Y) [] ([], o.2) from HQ.out.2.2.2.2 _ ⟨o, hs4, by rw [if_neg h0]⟩)
          clear hs4 hv4 hf4 h0 SU hc4
          generalize o.2 = er at *
          go_wp2_with fail
          go_returns
          exact ⟨none, 0, [], er, rfl, HR.out, IsRings.nil _, (fun q hq => by cases hq), (fun b hb => by cases hb), Nat.le_refl _, by (repeat (first | (with_reducible exact SinceOf.refl _) | (with_reducible assumption) | (with_reducible refine SinceOf.alloc ?_ _) | (with_reducible refine SinceOf.drew ?_) | (with_reducible refine SinceOf.drewN ?_ _) | (with_reducible refine SinceOf.later ?_ _) | (with_reducible refine SinceOf.further ?_ _) | (with_reducible refine SinceOf.setCell ?_ (by first | exact Nat.le_refl _ | (simp; done) | omega | (simp; omega)) _)))⟩
    · obtain rfl : k = Y.length := by omega
      rw [List.drop_of_length_le (by rw [vxs_len]; exact Nat.le_refl _)] at hp3
      have hmov := hp3 _ (rfl : MovP (vx, vy) [] (vxs Z3) (vxs Z3, 0))
      have HQ := Lib.hid (And.intro hmov (And.intro (ho3.rings (by omega)) (And.intro hf3 (And.intro (fun b hb => (ho3.own.below b hb).1) (And.intro ho3.own.le_cap hn3)))))
      clear hp3 hmov ho3 hf3 hn3 hnk
      go_wp2_with fail
      go_returns
      exact ⟨A3, c3, Z3, 0, by rw [HQ.out.2.2.2.2.2]; rfl, HQ.out.1, HQ.out.2.1, HQ.out.2.2.1, fun b hb => by have := HQ.out.2.2.2.1 b hb; omega, HQ.out.2.2.2.2.1, by (repeat (first | (with_reducible exact SinceOf.refl _) | (with_reducible assumption) | (with_reducible refine SinceOf.alloc ?_ _) | (with_reducible refine SinceOf.drew ?_) | (with_reducible refine SinceOf.drewN ?_ _) | (with_reducible refine SinceOf.later ?_ _) | (with_reducible refine SinceOf.further ?_ _) | (with_reducible refine SinceOf.setCell ?_ (by first | exact Nat.le_refl _ | (simp; done) | omega | (simp; omega)) _)))⟩
set_option maxRecDepth 100000 in
theorem refSame16_any (A B : Option Addr) (c d : Nat) (X Y : List RgR) (w : World) (h : IsRings w A c X) (h2 : IsRings w B d Y) :
    Gives Tryz.prog 11 #[.slice A X.length c, .slice B Y.length d] w (.bool (decide (vxs X = vxs Y))) := by
  apply Gives.ret
  have C := sameAll_any A B c d X Y w h h2
  generalize decide (vxs X = vxs Y) = b at *
  clear h h2
  go_enter Tryz.func11, Tryz.ntmps11
  go_wp2_with fail
  refine C.calls.mono ?_
  rintro e _ ⟨rfl, x1, rfl⟩
  go_wp2_with fail
  go_returns
  exact ⟨rfl, by (repeat (first | (with_reducible exact LaterOf.refl _) | (with_reducible refine LaterOf.alloc ?_ _) | (with_reducible refine LaterOf.drew ?_) | (with_reducible refine LaterOf.drewN ?_ _) | (with_reducible refine LaterOf.later ?_ _) | (with_reducible refine LaterOf.setCell ?_ (by first | exact Nat.le_refl _ | (simp; done) | omega | (simp; omega)) _)))⟩
section
variable {P : Program} {α : Type} {enc : α → List Value} {k base : Nat} {e : TypeId}
/-- As wpList_append_row, for a guarded operation that is carried out. -/
theorem wpList_append_row_w {w : World} {ops : Array Oper} {rest : List Oper} {o : Oper} {a : Act} {Q : Exit → Act → World → Prop} (hw : Region.wanted o (yielded ops a.tmps) = true) (s x : Operand) (t : TypeId)
    (ho : o.op = .call { callee := .builtin .append, args := #[s, x], argTypes := #[t, t] })
    (hk : ∀ x, (enc x).length = k) (hk0 : 0 < k) (h1c : ∀ x, ∀ u ∈ enc x, u.oneCell' = true) (i : TypeInfo) (z : Value) (bytes : Nat) (ht : P.underlying t = some (.slice e)) (hi : P.info? e = some i) (hz : i.zero = some z)
    (hsize : i.size = k) (hby : i.bytes = bytes) (hzs : z.cells.size = k) {A : Option Addr} {c : Nat} {l : List α} (hs : a.eval s = .slice A l.length c) (hown : Owns enc k base e w A c l) {B : Option Addr} {d : Nat} {m : List α} (hx : a.eval x = .slice B m.length d) (hm : IsRow enc k w B d m)
    (h63 : l.length + m.length ≤ maxLen) (hbytes : (l.length + m.length) * bytes ≤ 140737488355328) (hbase : base ≤ w.heap.size)
    (h : ∀ A' c' w', Owns enc k base e w' A' c' (l ++ m) → w.grownBy w' (blockOf A) → (blockOf A' = blockOf A ∨ blockOf A' = some w.heap.size) → wpList P ops Q rest (a.put o.dst (.slice A' (l.length + m.length) c')) w') : wpList P ops Q (o :: rest) a w :=
  BigFrame.wpList_want hw fun _ hK => wp_append_row s x t ho hk hk0 h1c i z bytes ht hi hz hsize hby hzs hs hown hx hm h63 hbytes hbase fun A' c' w' h2 h3 h4 => hK _ _ (h A' c' w' h2 h3 h4)
end
set_option maxRecDepth 100000 in
set_option maxHeartbeats 32000000 in
theorem nofitOf_any (A B : Option Addr) (c d : Nat) (X Y : List RgR) (vx vy : Int) (w : World) (h : IsRings w A c X) (h2 : IsRings w B d Y) : Yields Tryz.prog 3 #[.slice A X.length c, .slice B Y.length d, .agg #[.int .i64 vx, .int .i64 vy]] w (.bool true) := by
  apply Yields.ret
  obtain ⟨i0, hi, hz0, hz1, hz2⟩ := info_parts infoRing
  have HI := Lib.hid (And.intro hi (And.intro hz0 (And.intro hz1 hz2)))
  have H := Lib.hid (And.intro h h2)
  clear h h2 hi hz0 hz1 hz2
  go_enter Tryz.func3, Tryz.ntmps3
  go_wp2_with fail
  refine (awake16_any _).mono ?_
  rintro e _ ⟨rfl, x1, rfl⟩
  go_wp2_with fail
  refine (fewL_any A c X _ (H.out.1.of (by (repeat (first | (with_reducible exact SinceOf.refl _) | (with_reducible assumption) | (with_reducible refine SinceOf.alloc ?_ _) | (with_reducible refine SinceOf.drew ?_) | (with_reducible refine SinceOf.drewN ?_ _) | (with_reducible refine SinceOf.later ?_ _) | (with_reducible refine SinceOf.further ?_ _) | (with_reducible refine SinceOf.setCell ?_ (by first | exact Nat.le_refl _ | (simp; done) | omega | (simp; omega)) _)))))).mono ?_
  rintro e _ ⟨b1, rfl, hb1, ⟨x2, rfl⟩⟩
  cases b1
  · clear hb1
    go_wp2_with fail
    go_returns
    exact ⟨rfl, by (repeat (first | (with_reducible exact SinceOf.refl _) | (with_reducible assumption) | (with_reducible refine SinceOf.alloc ?_ _) | (with_reducible refine SinceOf.drew ?_) | (with_reducible refine SinceOf.drewN ?_ _) | (with_reducible refine SinceOf.later ?_ _) | (with_reducible refine SinceOf.further ?_ _) | (with_reducible refine SinceOf.setCell ?_ (by first | exact Nat.le_refl _ | (simp; done) | omega | (simp; omega)) _)))⟩
  have HF1 := Lib.hid (hb1 rfl)
  clear hb1
  go_wp2_with fail
  refine (fewL_any B d Y _ (H.out.2.of (by (repeat (first | (with_reducible exact SinceOf.refl _) | (with_reducible assumption) | (with_reducible refine SinceOf.alloc ?_ _) | (with_reducible refine SinceOf.drew ?_) | (with_reducible refine SinceOf.drewN ?_ _) | (with_reducible refine SinceOf.later ?_ _) | (with_reducible refine SinceOf.further ?_ _) | (with_reducible refine SinceOf.setCell ?_ (by first | exact Nat.le_refl _ | (simp; done) | omega | (simp; omega)) _)))))).mono ?_
  rintro e _ ⟨b2, rfl, hb2, ⟨x3, rfl⟩⟩
  cases b2
  · clear hb2
    go_wp2_with fail
    go_returns
    exact ⟨rfl, by (repeat (first | (with_reducible exact SinceOf.refl _) | (with_reducible assumption) | (with_reducible refine SinceOf.alloc ?_ _) | (with_reducible refine SinceOf.drew ?_) | (with_reducible refine SinceOf.drewN ?_ _) | (with_reducible refine SinceOf.later ?_ _) | (with_reducible refine SinceOf.further ?_ _) | (with_reducible refine SinceOf.setCell ?_ (by first | exact Nat.le_refl _ | (simp; done) | omega | (simp; omega)) _)))⟩
  have HF2 := Lib.hid (hb2 rfl)
  clear hb2
  have hXl : X.length ≤ 4 := HF1.out.2
  have hYl : Y.length ≤ 4 := HF2.out.2
  go_wp2_with fail
  refine (of_any A B c d X Y _ (H.out.1.of (by (repeat (first | (with_reducible exact SinceOf.refl _) | (with_reducible assumption) | (with_reducible refine SinceOf.alloc ?_ _) | (with_reducible refine SinceOf.drew ?_) | (with_reducible refine SinceOf.drewN ?_ _) | (with_reducible refine SinceOf.later ?_ _) | (with_reducible refine SinceOf.further ?_ _) | (with_reducible refine SinceOf.setCell ?_ (by first | exact Nat.le_refl _ | (simp; done) | omega | (simp; omega)) _))))) (H.out.2.of (by (repeat (first | (with_reducible exact SinceOf.refl _) | (with_reducible assumption) | (with_reducible refine SinceOf.alloc ?_ _) | (with_reducible refine SinceOf.drew ?_) | (with_reducible refine SinceOf.drewN ?_ _) | (with_reducible refine SinceOf.later ?_ _) | (with_reducible refine SinceOf.further ?_ _) | (with_reducible refine SinceOf.setCell ?_ (by first | exact Nat.le_refl _ | (simp; done) | omega | (simp; omega)) _))))) (by omega) (by omega)).mono ?_
  rintro e _ ⟨B1, d1, Z1, e1, rfl, hof1, hl1⟩
  obtain ⟨hr1, -, -, -, ⟨y1, rfl⟩⟩ := hl1
  go_wp2_with fail
  refine (refNofOf_any A B c d X Y _ (H.out.1.of (by (repeat (first | (with_reducible exact SinceOf.refl _) | (with_reducible assumption) | (with_reducible refine SinceOf.alloc ?_ _) | (with_reducible refine SinceOf.drew ?_) | (with_reducible refine SinceOf.drewN ?_ _) | (with_reducible refine SinceOf.later ?_ _) | (with_reducible refine SinceOf.further ?_ _) | (with_reducible refine SinceOf.setCell ?_ (by first | exact Nat.le_refl _ | (simp; done) | omega | (simp; omega)) _))))) (H.out.2.of (by (repeat (first | (with_reducible exact SinceOf.refl _) | (with_reducible assumption) | (with_reducible refine SinceOf.alloc ?_ _) | (with_reducible refine SinceOf.drew ?_) | (with_reducible refine SinceOf.drewN ?_ _) | (with_reducible refine SinceOf.later ?_ _) | (with_reducible refine SinceOf.further ?_ _) | (with_reducible refine SinceOf.setCell ?_ (by first | exact Nat.le_refl _ | (simp; done) | omega | (simp; omega)) _))))) (by omega) (by omega)).mono ?_
  rintro e _ ⟨B2, d2, Z2, e2, rfl, hof2, hl2⟩
  obtain ⟨hr2, -, -, -, ⟨y2, rfl⟩⟩ := hl2
  obtain ⟨hz, rfl⟩ := Prod.mk.inj (hof1.unique hof2)
  have HO1 := Lib.hid (And.intro hr1 (And.intro hr2 hz))
  clear hof1 hof2 hr1 hr2 hz
  have zc0 : y2.wd.cell? ⟨w.heap.size, 0, none⟩ = some (.int .i64 vx) := by simp [go_sem]
  have zc1 : y2.wd.cell? ⟨w.heap.size, 1, none⟩ = some (.int .i64 vy) := by simp [go_sem]
  have zo : Nonempty (Old y2.wd w.heap.size) := inferInstance
  go_wp2_with fail
  refine (nofMove_any A c X vx vy _ (H.out.1.of (by (repeat (first | (with_reducible exact SinceOf.refl _) | (with_reducible assumption) | (with_reducible refine SinceOf.alloc ?_ _) | (with_reducible refine SinceOf.drew ?_) | (with_reducible refine SinceOf.drewN ?_ _) | (with_reducible refine SinceOf.later ?_ _) | (with_reducible refine SinceOf.further ?_ _) | (with_reducible refine SinceOf.setCell ?_ (by first | exact Nat.le_refl _ | (simp; done) | omega | (simp; omega)) _))))) (by omega)).mono ?_
  rintro e _ ⟨B3, d3, Z3, e3, rfl, hmv3, hl3⟩
  obtain ⟨hr3, -, -, -, ⟨y3, rfl⟩⟩ := hl3
  go_wp2_with fail
  refine (refNofMove_any A c X vx vy _ (H.out.1.of (by (repeat (first | (with_reducible exact SinceOf.refl _) | (with_reducible assumption) | (with_reducible refine SinceOf.alloc ?_ _) | (with_reducible refine SinceOf.drew ?_) | (with_reducible refine SinceOf.drewN ?_ _) | (with_reducible refine SinceOf.later ?_ _) | (with_reducible refine SinceOf.further ?_ _) | (with_reducible refine SinceOf.setCell ?_ (by first | exact Nat.le_refl _ | (simp; done) | omega | (simp; omega)) _))))) (by omega)).mono ?_
  rintro e _ ⟨B4, d4, Z4, e4, rfl, hmv4, hl4⟩
  obtain ⟨hr4, -, -, -, ⟨y4, rfl⟩⟩ := hl4
  obtain ⟨hz, rfl⟩ := Prod.mk.inj (hmv3.unique hmv4)
  have HO3 := Lib.hid (And.intro hr3 (And.intro hr4 hz))
  clear hmv3 hmv4 hr3 hr4 hz
  go_wp2_with fail
  refine (join_any A B c d X Y _ (H.out.1.of (by (repeat (first | (with_reducible exact SinceOf.refl _) | (with_reducible assumption) | (with_reducible refine SinceOf.alloc ?_ _) | (with_reducible refine SinceOf.drew ?_) | (with_reducible refine SinceOf.drewN ?_ _) | (with_reducible refine SinceOf.later ?_ _) | (with_reducible refine SinceOf.further ?_ _) | (with_reducible refine SinceOf.setCell ?_ (by first | exact Nat.le_refl _ | (simp; done) | omega | (simp; omega)) _))))) (H.out.2.of (by (repeat (first | (with_reducible exact SinceOf.refl _) | (with_reducible assumption) | (with_reducible refine SinceOf.alloc ?_ _) | (with_reducible refine SinceOf.drew ?_) | (with_reducible refine SinceOf.drewN ?_ _) | (with_reducible refine SinceOf.later ?_ _) | (with_reducible refine SinceOf.further ?_ _) | (with_reducible refine SinceOf.setCell ?_ (by first | exact Nat.le_refl _ | (simp; done) | omega | (simp; omega)) _))))) (by omega) (by omega) (fun x hx => by have := HF1.out.1 x hx; omega) (fun x hx => by have := HF2.out.1 x hx; omega)).mono ?_
  rintro e _ ⟨B5, d5, Z5, rfl, hz5, hr5, -, ⟨y5, rfl⟩⟩
  have HO5 := Lib.hid (And.intro hz5 hr5)
  have S1 := fun W (hW : SinceOf y5.wd W) => refSame16_any B1 B2 d1 d2 Z1 Z2 W (HO1.out.1.of (SinceOf.trans (by (repeat (first | (with_reducible exact SinceOf.refl _) | (with_reducible assumption) | (with_reducible refine SinceOf.alloc ?_ _) | (with_reducible refine SinceOf.drew ?_) | (with_reducible refine SinceOf.drewN ?_ _) | (with_reducible refine SinceOf.later ?_ _) | (with_reducible refine SinceOf.further ?_ _) | (with_reducible refine SinceOf.setCell ?_ (by first | exact Nat.le_refl _ | (simp; done) | omega | (simp; omega)) _)))) hW)) (HO1.out.2.1.of (SinceOf.trans (by (repeat (first | (with_reducible exact SinceOf.refl _) | (with_reducible assumption) | (with_reducible refine SinceOf.alloc ?_ _) | (with_reducible refine SinceOf.drew ?_) | (with_reducible refine SinceOf.drewN ?_ _) | (with_reducible refine SinceOf.later ?_ _) | (with_reducible refine SinceOf.further ?_ _) | (with_reducible refine SinceOf.setCell ?_ (by first | exact Nat.le_refl _ | (simp; done) | omega | (simp; omega)) _)))) hW))
  have S2 := fun W (hW : SinceOf y5.wd W) => refSame16_any B3 B4 d3 d4 Z3 Z4 W (HO3.out.1.of (SinceOf.trans (by (repeat (first | (with_reducible exact SinceOf.refl _) | (with_reducible assumption) | (with_reducible refine SinceOf.alloc ?_ _) | (with_reducible refine SinceOf.drew ?_) | (with_reducible refine SinceOf.drewN ?_ _) | (with_reducible refine SinceOf.later ?_ _) | (with_reducible refine SinceOf.further ?_ _) | (with_reducible refine SinceOf.setCell ?_ (by first | exact Nat.le_refl _ | (simp; done) | omega | (simp; omega)) _)))) hW)) (HO3.out.2.1.of (SinceOf.trans (by (repeat (first | (with_reducible exact SinceOf.refl _) | (with_reducible assumption) | (with_reducible refine SinceOf.alloc ?_ _) | (with_reducible refine SinceOf.drew ?_) | (with_reducible refine SinceOf.drewN ?_ _) | (with_reducible refine SinceOf.later ?_ _) | (with_reducible refine SinceOf.further ?_ _) | (with_reducible refine SinceOf.setCell ?_ (by first | exact Nat.le_refl _ | (simp; done) | omega | (simp; omega)) _)))) hW))
  rw [decide_eq_true HO1.out.2.2] at S1
  rw [decide_eq_true HO3.out.2.2] at S2
  have hw5 : SinceOf w y5.wd := by (repeat (first | (with_reducible exact SinceOf.refl _) | (with_reducible assumption) | (with_reducible refine SinceOf.alloc ?_ _) | (with_reducible refine SinceOf.drew ?_) | (with_reducible refine SinceOf.drewN ?_ _) | (with_reducible refine SinceOf.later ?_ _) | (with_reducible refine SinceOf.further ?_ _) | (with_reducible refine SinceOf.setCell ?_ (by first | exact Nat.le_refl _ | (simp; done) | omega | (simp; omega)) _)))
  have HW5 := Lib.hid hw5
  clear hz5 hr5 hw5
  go_wp2_with fail
  refine (S1 _ (by (repeat (first | (with_reducible exact SinceOf.refl _) | (with_reducible assumption) | (with_reducible refine SinceOf.alloc ?_ _) | (with_reducible refine SinceOf.drew ?_) | (with_reducible refine SinceOf.drewN ?_ _) | (with_reducible refine SinceOf.later ?_ _) | (with_reducible refine SinceOf.further ?_ _) | (with_reducible refine SinceOf.setCell ?_ (by first | exact Nat.le_refl _ | (simp; done) | omega | (simp; omega)) _))))).calls.mono ?_
  rintro e _ ⟨rfl, z1, rfl⟩
  go_wp2_with fail
  refine (S2 _ (by (repeat (first | (with_reducible exact SinceOf.refl _) | (with_reducible assumption) | (with_reducible refine SinceOf.alloc ?_ _) | (with_reducible refine SinceOf.drew ?_) | (with_reducible refine SinceOf.drewN ?_ _) | (with_reducible refine SinceOf.later ?_ _) | (with_reducible refine SinceOf.further ?_ _) | (with_reducible refine SinceOf.setCell ?_ (by first | exact Nat.le_refl _ | (simp; done) | omega | (simp; omega)) _))))).calls.mono ?_
  rintro e _ ⟨rfl, z2, rfl⟩
  clear S1 S2
  go_wp2_with (first
    | (at_builtin; refine wpList_append_row_w (by rfl) (.tmp 73) (.tmp 74) 22 rfl encG_len (by omega) encG_one i0 _ 24 Tryz.underlying22 HI.out.1 HI.out.2.1 HI.out.2.2.1 HI.out.2.2.2 rfl (l := []) (A := some ⟨z2.wd.heap.size, 0, none⟩) (c := 0) (base := z2.wd.heap.size) rfl (World.ownsRow_lit z2.wd #[] 0 (Nat.le_refl _) (Nat.zero_le _) rfl) (m := X) rfl (H.out.1.row.of (SinceOf.trans HW5.out (by (repeat (first | (with_reducible exact SinceOf.refl _) | (with_reducible assumption) | (with_reducible refine SinceOf.alloc ?_ _) | (with_reducible refine SinceOf.drew ?_) | (with_reducible refine SinceOf.drewN ?_ _) | (with_reducible refine SinceOf.later ?_ _) | (with_reducible refine SinceOf.further ?_ _) | (with_reducible refine SinceOf.setCell ?_ (by first | exact Nat.le_refl _ | (simp; done) | omega | (simp; omega)) _)))))) (by unfold maxLen; simp; omega) (by simp; omega) (by simp) ?_; intro A5 c5 w5 ho5 hgr5 hb5)
    | (at_builtin; refine wpList_append_row_w (by rfl) (.tmp 75) (.tmp 76) 22 rfl encG_len (by omega) encG_one i0 _ 24 Tryz.underlying22 HI.out.1 HI.out.2.1 HI.out.2.2.1 HI.out.2.2.2 rfl (l := [] ++ X) (A := A5) (c := c5) (base := z2.wd.heap.size) (by rfl) ho5 (m := Y) rfl (H.out.2.row.of (SinceOf.trans HW5.out (SinceOf.grown (show SinceOf y5.wd (z2.wd.alloc (.cells #[] 41)) by (repeat (first | (with_reducible exact SinceOf.refl _) | (with_reducible assumption) | (with_reducible refine SinceOf.alloc ?_ _) | (with_reducible refine SinceOf.drew ?_) | (with_reducible refine SinceOf.drewN ?_ _) | (with_reducible refine SinceOf.later ?_ _) | (with_reducible refine SinceOf.further ?_ _) | (with_reducible refine SinceOf.setCell ?_ (by first | exact Nat.le_refl _ | (simp; done) | omega | (simp; omega)) _)))) hgr5 (fun q hq => by (have e : q = z2.wd.heap.size := by simpa [blockOf] using hq.symm); (have := z2.size); (have := z1.size); omega)))) (by unfold maxLen; simp; omega) (by simp; omega) (by have := hgr5.size; simp at this; omega) ?_; intro A6 c6 w6 ho6 hgr6 hb6))
  have hs6 : SinceOf y5.wd w6 := by
    have q1 : SinceOf y5.wd w5 := SinceOf.grown (show SinceOf y5.wd (z2.wd.alloc (.cells #[] 41)) by (repeat (first | (with_reducible exact SinceOf.refl _) | (with_reducible assumption) | (with_reducible refine SinceOf.alloc ?_ _) | (with_reducible refine SinceOf.drew ?_) | (with_reducible refine SinceOf.drewN ?_ _) | (with_reducible refine SinceOf.later ?_ _) | (with_reducible refine SinceOf.further ?_ _) | (with_reducible refine SinceOf.setCell ?_ (by first | exact Nat.le_refl _ | (simp; done) | omega | (simp; omega)) _)))) hgr5 (fun q hq => by (have e : q = z2.wd.heap.size := by simpa [blockOf] using hq.symm); (have := z2.size); (have := z1.size); omega)
    exact SinceOf.grown q1 hgr6 (fun q hq => by (have := (ho5.below q hq).1); (have := z2.size); (have := z1.size); omega)
  have hw6 : SinceOf w w6 := SinceOf.trans HW5.out hs6
  have hrow : IsRow encG 1 w6 A6 c6 (X ++ Y) := by simpa using ho6.isRow encG_len
  have hall : IsRings w6 A6 c6 (X ++ Y) := ⟨hrow, fun x hx => by
    rcases List.mem_append.1 hx with q | q
    · exact (H.out.1.all x q).of hw6
    · exact (H.out.2.all x q).of hw6, by rw [List.length_append]; omega⟩
  have SM := sameAll_any B5 A6 d5 c6 Z5 (X ++ Y) w6 (HO5.out.2.of hs6) hall
  rw [List.length_append, decide_eq_true (show vxs Z5 = vxs (X ++ Y) by rw [HO5.out.1]; simp [vxs])] at SM
  have HE := Lib.hid hw6
  clear hw6 hs6 hrow hall ho5 ho6 hgr5 hgr6 hb5 hb6
  refine SM.calls.mono ?_
  rintro e _ ⟨rfl, z6, rfl⟩
  clear SM
  go_wp2_with fail
  go_returns
  exact ⟨by first | rfl | simp, SinceOf.later HE.out z6⟩
end Go.Proofs.YtpbgimdbhgahkaaGreat
