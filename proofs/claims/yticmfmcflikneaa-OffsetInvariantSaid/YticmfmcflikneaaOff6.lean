/- Layer 18: Grow of both. -/
import Derived.Test.YticmfmcflikneaaOff5
namespace Go.Proofs.Yticmfmcflikneaa
open Go.RowKit Go.Sort
set_option linter.unusedVariables false
set_option linter.unusedSimpArgs false
attribute [local go_sem ↓] Go.wp_at_zero Go.wp_at_succ

theorem octR_pos {k : Int} (h : k ≠ 0) : octR k = octF k := by unfold octR; rw [if_neg h]
set_option maxRecDepth 100000 in
set_option maxHeartbeats 16000000 in
theorem grow_any (A : Option Addr) (c : Nat) (X : List RgR) (k : Int) (w : World) (h : IsRings w A c X) (hlen : X.length ≤ 1000) :
    Calls Try.prog 54 #[.slice A X.length c, .int .i64 k] w fun e w' => ∃ B d Y err, e = .returned (.tuple #[.slice B Y.length d, .int .i64 err]) ∧ IsRings w' B d Y ∧ growV k (vxs X) = (vxs Y, err) ∧ SinceOf w w' := by
  have H := Lib.hid h
  clear h
  by_cases h1 : k < 0
  · have hgv : growV k (vxs X) = ([], 2) := by unfold growV; rw [if_neg (by omega)]
    have g1 : decide (k < 0) = true := decide_eq_true h1
    have HK := Lib.hid hgv
    clear h1 hgv
    go_enter Try.func54, Try.ntmps54
    go_wp2_with fail
    go_returns
    exact ⟨none, 0, [], 2, rfl, IsRings.nil _, HK.out, by (repeat (first | (with_reducible exact SinceOf.refl _) | (with_reducible assumption) | (with_reducible refine SinceOf.alloc ?_ _) | (with_reducible refine SinceOf.drew ?_) | (with_reducible refine SinceOf.drewN ?_ _) | (with_reducible refine SinceOf.later ?_ _) | (with_reducible refine SinceOf.further ?_ _) | (with_reducible refine SinceOf.setCell ?_ (by first | exact Nat.le_refl _ | (simp; done) | omega | (simp; omega)) _)))⟩
  by_cases h2 : 200 < k
  · have hgv : growV k (vxs X) = ([], 2) := by unfold growV; rw [if_neg (by omega)]
    have g1 : decide (k < 0) = false := decide_eq_false h1
    have g2 : decide (200 < k) = true := decide_eq_true h2
    have HK := Lib.hid hgv
    clear h1 h2 hgv
    go_enter Try.func54, Try.ntmps54
    go_wp2_with fail
    go_returns
    exact ⟨none, 0, [], 2, rfl, IsRings.nil _, HK.out, by (repeat (first | (with_reducible exact SinceOf.refl _) | (with_reducible assumption) | (with_reducible refine SinceOf.alloc ?_ _) | (with_reducible refine SinceOf.drew ?_) | (with_reducible refine SinceOf.drewN ?_ _) | (with_reducible refine SinceOf.later ?_ _) | (with_reducible refine SinceOf.further ?_ _) | (with_reducible refine SinceOf.setCell ?_ (by first | exact Nat.le_refl _ | (simp; done) | omega | (simp; omega)) _)))⟩
  have g1 : decide (k < 0) = false := decide_eq_false h1
  have g2 : decide (200 < k) = false := decide_eq_false h2
  have HK := Lib.hid (And.intro (show 0 ≤ k ∧ k ≤ 200 by omega) (show growV k (vxs X) = growL k (vxs X) by unfold growV; rw [if_pos (by omega)]))
  obtain ⟨i0, hi, hz0, hz1, hz2⟩ := info_parts infoRing
  have HI := Lib.hid (And.intro hi (And.intro hz0 (And.intro hz1 hz2)))
  have hol := octR_len HK.out.1.1 HK.out.1.2
  clear hi hz0 hz1 hz2
  go_enter Try.func54, Try.ntmps54
  go_wp2_with fail
  clear g1 g2 h1 h2
  refine (octagon_any k _).mono ?_
  rintro e _ ⟨A9, c9, r9, e9, rfl, hv9, hr9, ⟨x9, rfl⟩⟩
  have H9 := Lib.hid (And.intro hv9 hr9)
  clear hv9 hr9
  go_upto_if 25 with fail
  go_cut [6] (fun s6 wx => ∃ (A1 : Option Addr) (c1 : Nat), s6 = .slice A1 (octR k).length c1 ∧ IsVecs wx A1 c1 (octR k) ∧ SinceOf w wx)
  case first =>
    by_cases hk0 : k = 0
    · subst hk0
      go_wp2_with fail
      go_meet
      have hrow : OwnVecs x9.wd.heap.size (x9.wd.alloc (.cells #[.int .i64 0, .int .i64 0] 32)) (some ⟨x9.wd.heap.size, 0, none⟩) 1 [(0, 0)] := World.ownsRow_lit x9.wd _ 1 (Nat.le_refl _) (by decide) rfl
      exact ⟨_, 1, rfl, hrow.isRow encV_len, by (repeat (first | (with_reducible exact SinceOf.refl _) | (with_reducible assumption) | (with_reducible refine SinceOf.alloc ?_ _) | (with_reducible refine SinceOf.drew ?_) | (with_reducible refine SinceOf.drewN ?_ _) | (with_reducible refine SinceOf.later ?_ _) | (with_reducible refine SinceOf.further ?_ _) | (with_reducible refine SinceOf.setCell ?_ (by first | exact Nat.le_refl _ | (simp; done) | omega | (simp; omega)) _)))⟩
    · have g3 : (k == 0) = false := by simpa using hk0
      go_wp2_with fail
      go_meet
      obtain ⟨e1, e2⟩ := octF_of (by have := HK.out; omega) HK.out.1.2 H9.out.2
      have hop := octR_pos hk0
      rw [← hop] at e1
      subst e1
      exact ⟨A9, c9, rfl, H9.out.1, by (repeat (first | (with_reducible exact SinceOf.refl _) | (with_reducible assumption) | (with_reducible refine SinceOf.alloc ?_ _) | (with_reducible refine SinceOf.drew ?_) | (with_reducible refine SinceOf.drewN ?_ _) | (with_reducible refine SinceOf.later ?_ _) | (with_reducible refine SinceOf.further ?_ _) | (with_reducible refine SinceOf.setCell ?_ (by first | exact Nat.le_refl _ | (simp; done) | omega | (simp; omega)) _)))⟩
  case rest =>
    obtain ⟨A1, c1, rfl, hO, ⟨v, rfl⟩⟩ := hcut
    have HO := Lib.hid hO
    clear hO H9
    go_wp2_with fail
    go_loopg [8, 30] X.length (fun gas s8 s30 wr => ∃ (i : Nat) (A2 : Option Addr) (c2 n2 : Nat) (Y : List RgR), i ≤ X.length ∧ X.length - i ≤ gas ∧ n2 = Y.length ∧ n2 ≤ i ∧ s8 = .slice A2 n2 c2 ∧ s30 = .int .i64 i ∧ OwnRings v.wd.heap.size wr A2 c2 Y ∧ growL k (vxs X) = growFin (vxs Y) (growL k ((vxs X).drop i)) ∧ SinceOf v.wd wr)
    case atStart => exact ⟨0, none, 0, 0, [], by omega, by omega, rfl, by omega, rfl, rfl, OwnRings.nil _ _, by rw [List.drop_zero]; exact (growFin_nil _ _).symm, by (repeat (first | (with_reducible exact SinceOf.refl _) | (with_reducible assumption) | (with_reducible refine SinceOf.alloc ?_ _) | (with_reducible refine SinceOf.drew ?_) | (with_reducible refine SinceOf.drewN ?_ _) | (with_reducible refine SinceOf.later ?_ _) | (with_reducible refine SinceOf.further ?_ _) | (with_reducible refine SinceOf.setCell ?_ (by first | exact Nat.le_refl _ | (simp; done) | omega | (simp; omega)) _)))⟩
    case round =>
      obtain ⟨i, A2, c2, n2, Y, hi, hgas, hn2, hni, rfl, rfl, ho, hg, ⟨z, rfl⟩⟩ := hrel
      have hzs := z.size
      have hvs := v.size
      by_cases hlt : i < X.length
      · have hX := H.out.of (w' := z.wd) (by (repeat (first | (with_reducible exact SinceOf.refl _) | (with_reducible assumption) | (with_reducible refine SinceOf.alloc ?_ _) | (with_reducible refine SinceOf.drew ?_) | (with_reducible refine SinceOf.drewN ?_ _) | (with_reducible refine SinceOf.later ?_ _) | (with_reducible refine SinceOf.further ?_ _) | (with_reducible refine SinceOf.setCell ?_ (by first | exact Nat.le_refl _ | (simp; done) | omega | (simp; omega)) _))))
        have hx := hX.all _ (List.getElem_mem hlt)
        obtain ⟨g, off, rfl, hr⟩ := hX.row.at_ (by omega)
        have hO := hr.there
        have k0 := hr.g0 i hlt
        have hdr : (vxs X).drop i = X[i].xs :: (vxs X).drop (i + 1) := by
          rw [List.drop_eq_getElem_cons (by rw [vxs_len]; exact hlt)]
          simp [vxs]
        rw [hdr] at hg
        generalize X[i] = x at *
        have CV := fun W (hW : SinceOf z.wd W) => convex_any x.A x.c x.xs W (hx.1.of hW) hx.2
        cases hcv : convexB x.xs
        · rw [hcv] at CV
          rw [growFin_bad (by rw [growF_bad hcv]; decide), growF_bad hcv] at hg
          have HG := Lib.hid hg
          clear hg hdr hcv hr hX hx ho hn2
          go_wp2_with fail
          refine (CV _ (by (repeat (first | (with_reducible exact SinceOf.refl _) | (with_reducible assumption) | (with_reducible refine SinceOf.alloc ?_ _) | (with_reducible refine SinceOf.drew ?_) | (with_reducible refine SinceOf.drewN ?_ _) | (with_reducible refine SinceOf.later ?_ _) | (with_reducible refine SinceOf.further ?_ _) | (with_reducible refine SinceOf.setCell ?_ (by first | exact Nat.le_refl _ | (simp; done) | omega | (simp; omega)) _))))).calls.mono ?_
          rintro e _ ⟨rfl, x2, rfl⟩
          go_wp2_with fail
          go_returns
          exact ⟨none, 0, [], 11, rfl, IsRings.nil _, HK.out.2.trans HG.out, by (repeat (first | (with_reducible exact SinceOf.refl _) | (with_reducible assumption) | (with_reducible refine SinceOf.alloc ?_ _) | (with_reducible refine SinceOf.drew ?_) | (with_reducible refine SinceOf.drewN ?_ _) | (with_reducible refine SinceOf.later ?_ _) | (with_reducible refine SinceOf.further ?_ _) | (with_reducible refine SinceOf.setCell ?_ (by first | exact Nat.le_refl _ | (simp; done) | omega | (simp; omega)) _)))⟩
        · rw [hcv] at CV
          obtain ⟨c3, c160, cf, cc⟩ := convexB_iff.1 hcv
          have hsl : (sumsL x.xs (octR k)).length ≤ 1280 := by
            rw [sumsL_len]
            exact Nat.le_trans (Nat.mul_le_mul c160 hol) (by omega)
          have HG := Lib.hid (And.intro hg (And.intro ho (And.intro hn2 (And.intro hcv hx))))
          clear hg hdr hcv hr hX hx ho hn2 cf cc c3
          go_wp2_with fail
          refine (CV _ (by (repeat (first | (with_reducible exact SinceOf.refl _) | (with_reducible assumption) | (with_reducible refine SinceOf.alloc ?_ _) | (with_reducible refine SinceOf.drew ?_) | (with_reducible refine SinceOf.drewN ?_ _) | (with_reducible refine SinceOf.later ?_ _) | (with_reducible refine SinceOf.further ?_ _) | (with_reducible refine SinceOf.setCell ?_ (by first | exact Nat.le_refl _ | (simp; done) | omega | (simp; omega)) _))))).calls.mono ?_
          rintro e _ ⟨rfl, x2, rfl⟩
          clear CV
          go_wp2_with fail
          refine (sums_any x.A A1 x.c c1 x.xs.length (octR k).length _).mono ?_
          rintro e _ ⟨b1, b2, rfl, hb1, hbO1, hb2, hbO2, ⟨x3, rfl⟩⟩
          have CS := collectSums_any x.A A1 x.c c1 x.xs (octR k) b1 b2 x3.wd (HG.out.2.2.2.2.1.of (by (repeat (first | (with_reducible exact SinceOf.refl _) | (with_reducible assumption) | (with_reducible refine SinceOf.alloc ?_ _) | (with_reducible refine SinceOf.drew ?_) | (with_reducible refine SinceOf.drewN ?_ _) | (with_reducible refine SinceOf.later ?_ _) | (with_reducible refine SinceOf.further ?_ _) | (with_reducible refine SinceOf.setCell ?_ (by first | exact Nat.le_refl _ | (simp; done) | omega | (simp; omega)) _))))) (HO.out.of (by (repeat (first | (with_reducible exact SinceOf.refl _) | (with_reducible assumption) | (with_reducible refine SinceOf.alloc ?_ _) | (with_reducible refine SinceOf.drew ?_) | (with_reducible refine SinceOf.drewN ?_ _) | (with_reducible refine SinceOf.later ?_ _) | (with_reducible refine SinceOf.further ?_ _) | (with_reducible refine SinceOf.setCell ?_ (by first | exact Nat.le_refl _ | (simp; done) | omega | (simp; omega)) _))))) (by omega) (by omega) (by omega) hb1 hbO1 hb2 hbO2
          have HCS := Lib.hid CS
          clear CS hb1 hb2 hbO1 hbO2
          go_wp2_with fail
          refine HCS.out.mono ?_
          rintro e _ ⟨A5, c5, rfl, ho5, ⟨x5, rfl⟩⟩
          have HN := Lib.hid (hull_new A5 c5 (sumsL x.xs (octR k)) x5.wd (ho5.isRow encV_len) (by omega))
          clear ho5 HCS
          go_wp2_with fail
          refine HN.out.mono ?_
          rintro e _ ⟨A6, c6, r6, e6, rfl, hv6, hr6, ⟨x6, rfl⟩, hf6⟩
          have h65 := x5.size
          have h63 := x3.size
          have h62 := x2.size
          have h66 : z.wd.heap.size ≤ x5.wd.heap.size := by omega
          have hgf : growF k x.xs = (r6, e6) := by rw [growF_ok HG.out.2.2.2.1]; exact hullF_eq hr6
          obtain ⟨y6, hy6⟩ : SinceOf z.wd x6.wd := by (repeat (first | (with_reducible exact SinceOf.refl _) | (with_reducible assumption) | (with_reducible refine SinceOf.alloc ?_ _) | (with_reducible refine SinceOf.drew ?_) | (with_reducible refine SinceOf.drewN ?_ _) | (with_reducible refine SinceOf.later ?_ _) | (with_reducible refine SinceOf.further ?_ _) | (with_reducible refine SinceOf.setCell ?_ (by first | exact Nat.le_refl _ | (simp; done) | omega | (simp; omega)) _)))
          have hf6' : ∀ b, blockOf A6 = some b → z.wd.heap.size ≤ b := fun b hb => Nat.le_trans h66 (hf6 b hb)
          rw [hy6] at hv6 ⊢
          clear HN hf6 h66 h65 h63 h62 hy6
          by_cases he : e6 = 0
          · subst he
            obtain ⟨hy, hy160, -⟩ := hullRes_ok hr6
            have hy3 := hy.hull.three
            have hfo := (growFin_ok (out := vxs Y) (l := (vxs X).drop (i + 1)) (show (growF k x.xs).2 = 0 by rw [hgf]))
            rw [hgf] at hfo
            have hg2 := HG.out.1
            rw [hfo] at hg2
            have HP := Lib.hid (And.intro hg2 (And.intro hf6' (And.intro hv6 HG.out.2)))
            clear hg2 hfo hf6' hv6 hr6 hy HG hgf
            clear x6 x5 x3 x2
            have hYl := HP.out.2.2.2.2.1
            go_wp2_with (at_builtin; refine wpList_append_row rfl (.tmp 48) (.tmp 50) 52 rfl encG_len (by omega) encG_one i0 _ 24 Try.underlying52 HI.out.1 HI.out.2.1 HI.out.2.2.1 HI.out.2.2.2 rfl (l := Y) (A := A2) (c := c2) (base := v.wd.heap.size) (by rw [← HP.out.2.2.2.2.1]; kernel_rfl) (HP.out.2.2.2.1.own.of (by (repeat (first | (with_reducible exact SinceOf.refl _) | (with_reducible assumption) | (with_reducible refine SinceOf.alloc ?_ _) | (with_reducible refine SinceOf.drew ?_) | (with_reducible refine SinceOf.drewN ?_ _) | (with_reducible refine SinceOf.later ?_ _) | (with_reducible refine SinceOf.further ?_ _) | (with_reducible refine SinceOf.setCell ?_ (by first | exact Nat.le_refl _ | (simp; done) | omega | (simp; omega)) _))))) (m := [⟨A6, c6, r6⟩]) rfl (isRow_atG _ _ ⟨A6, c6, r6⟩ (by first | rfl | simp)) (by rw [← HP.out.2.2.2.2.1]; unfold maxLen; simp; omega) (by rw [← HP.out.2.2.2.2.1]; simp; omega) (by have := y6.size; simp; omega) ?_; intro A7 c7 w7 ho7 hgr7 hb7)
            go_roundg (X.length - (i + 1))
            case measure => omega
            case rel =>
              have hs7 : SinceOf v.wd w7 := SinceOf.grown (by (repeat (first | (with_reducible exact SinceOf.refl _) | (with_reducible assumption) | (with_reducible refine SinceOf.alloc ?_ _) | (with_reducible refine SinceOf.drew ?_) | (with_reducible refine SinceOf.drewN ?_ _) | (with_reducible refine SinceOf.later ?_ _) | (with_reducible refine SinceOf.further ?_ _) | (with_reducible refine SinceOf.setCell ?_ (by first | exact Nat.le_refl _ | (simp; done) | omega | (simp; omega)) _)))) hgr7 (fun q hq => (HP.out.2.2.2.1.own.below q hq).1)
              refine ⟨i + 1, A7, c7, n2 + 1, Y ++ [⟨A6, c6, r6⟩], hlt, Nat.le_refl _, (by rw [List.length_append, ← hYl]; try rfl), by omega, (by rw [← hYl]; try rfl), by go_num, ?_, by rw [show vxs (Y ++ [⟨A6, c6, r6⟩]) = vxs Y ++ [r6] by simp [vxs]]; exact HP.out.1, hs7⟩
              exact (HP.out.2.2.2.1.of (w' := y6.wd.alloc (.cells #[.slice A6 r6.length c6] 25)) (by (repeat (first | (with_reducible exact SinceOf.refl _) | (with_reducible assumption) | (with_reducible refine SinceOf.alloc ?_ _) | (with_reducible refine SinceOf.drew ?_) | (with_reducible refine SinceOf.drewN ?_ _) | (with_reducible refine SinceOf.later ?_ _) | (with_reducible refine SinceOf.further ?_ _) | (with_reducible refine SinceOf.setCell ?_ (by first | exact Nat.le_refl _ | (simp; done) | omega | (simp; omega)) _))))).push (x := ⟨A6, c6, r6⟩) (HP.out.2.2.1.of (by (repeat (first | (with_reducible exact SinceOf.refl _) | (with_reducible assumption) | (with_reducible refine SinceOf.alloc ?_ _) | (with_reducible refine SinceOf.drew ?_) | (with_reducible refine SinceOf.drewN ?_ _) | (with_reducible refine SinceOf.later ?_ _) | (with_reducible refine SinceOf.further ?_ _) | (with_reducible refine SinceOf.setCell ?_ (by first | exact Nat.le_refl _ | (simp; done) | omega | (simp; omega)) _))))) (by simp only; omega) (by simp only; omega) (fun b hb e => by have := HP.out.2.1 b hb; have := (HP.out.2.2.2.1.own.below b e).2; omega) ho7 hgr7 hb7
          · have hgb := growFin_bad (out := vxs Y) (l := (vxs X).drop (i + 1)) (show (growF k x.xs).2 ≠ 0 by rw [hgf]; exact he)
            rw [hgf] at hgb
            have hg2 := HG.out.1
            rw [hgb] at hg2
            have HP := Lib.hid hg2
            have g1 : (e6 != 0) = true := by simpa using he
            clear hg2 hgb hf6' hv6 hr6 HG hgf he
            go_wp2_with fail
            go_returns
            exact ⟨none, 0, [], e6, rfl, IsRings.nil _, HK.out.2.trans HP.out, by (repeat (first | (with_reducible exact SinceOf.refl _) | (with_reducible assumption) | (with_reducible refine SinceOf.alloc ?_ _) | (with_reducible refine SinceOf.drew ?_) | (with_reducible refine SinceOf.drewN ?_ _) | (with_reducible refine SinceOf.later ?_ _) | (with_reducible refine SinceOf.further ?_ _) | (with_reducible refine SinceOf.setCell ?_ (by first | exact Nat.le_refl _ | (simp; done) | omega | (simp; omega)) _)))⟩
      · obtain rfl : i = X.length := by omega
        rw [List.drop_of_length_le (by rw [vxs_len]; exact Nat.le_refl _), growFin_end] at hg
        have HP := Lib.hid (And.intro ho (And.intro hg hn2))
        clear ho hg hn2
        go_wp2_with fail
        go_returns
        have hl := HP.out.2.2
        exact ⟨A2, c2, Y, 0, by rw [hl]; rfl, HP.out.1.rings (by omega), HK.out.2.trans HP.out.2.1, by (repeat (first | (with_reducible exact SinceOf.refl _) | (with_reducible assumption) | (with_reducible refine SinceOf.alloc ?_ _) | (with_reducible refine SinceOf.drew ?_) | (with_reducible refine SinceOf.drewN ?_ _) | (with_reducible refine SinceOf.later ?_ _) | (with_reducible refine SinceOf.further ?_ _) | (with_reducible refine SinceOf.setCell ?_ (by first | exact Nat.le_refl _ | (simp; done) | omega | (simp; omega)) _)))⟩
end Go.Proofs.Yticmfmcflikneaa
