/- Layer 18: the walk of OffsetContains. -/
import Derived.Test.YticmfmcflikneaaOff11
import Derived.Test.YticmfmcflikneaaOffP5
namespace Go.Proofs.Yticmfmcflikneaa
open Go.RowKit Go.Sort
set_option linter.unusedVariables false
set_option linter.unusedSimpArgs false
attribute [local go_sem ↓] Go.wp_at_zero Go.wp_at_succ

theorem growV_one {k : Int} (h0 : 0 ≤ k) (h2 : k ≤ 200) {r s : List Pt} (h : growF k r = (s, 0)) : growV k [r] = ([s], 0) := by
  unfold growV
  rw [if_pos ⟨h0, h2⟩]
  unfold growL growL
  rw [h]
  rfl
theorem vxs_one {Y : List RgR} {s : List Pt} (h : vxs Y = [s]) : ∃ y : RgR, Y = [y] ∧ y.xs = s := by
  match Y, h with
  | [y], h => exact ⟨y, rfl, by simpa [vxs] using h⟩
  | [], h => simp [vxs] at h
  | _ :: _ :: _, h => simp [vxs] at h
set_option maxRecDepth 100000 in
set_option maxHeartbeats 16000000 in
theorem offsetContains_any (A : Option Addr) (c : Nat) (r : List (Int × Int)) (t u : Int) (w : World) (h : IsVecs w A c r) (hlen : r.length < 4611686018427387904) (ht : 0 ≤ t ∧ t ≤ 255) (hu : 0 ≤ u ∧ u ≤ 255) : Yields Try.prog 18 #[.slice A r.length c, .int .u8 t, .int .u8 u] w (.bool true) := by
  apply Yields.ret
  have H := Lib.hid h
  have ht0 := ht.1
  have ht1 := ht.2
  have hu0 := hu.1
  have hu1 := hu.2
  clear h ht hu
  by_cases h12 : 12 < r.length
  · have g1 : decide (12 < (r.length : Int)) = true := decide_eq_true (by omega)
    clear h12
    go_enter Try.func18, Try.ntmps18
    go_wp2_with fail
    refine (awake18_any _).calls.mono ?_
    rintro e _ ⟨rfl, x1, rfl⟩
    go_wp2_with fail
    go_returns
    exact ⟨rfl, by (repeat (first | (with_reducible exact SinceOf.refl _) | (with_reducible assumption) | (with_reducible refine SinceOf.alloc ?_ _) | (with_reducible refine SinceOf.drew ?_) | (with_reducible refine SinceOf.drewN ?_ _) | (with_reducible refine SinceOf.later ?_ _) | (with_reducible refine SinceOf.further ?_ _) | (with_reducible refine SinceOf.setCell ?_ (by first | exact Nat.le_refl _ | (simp; done) | omega | (simp; omega)) _)))⟩
  have g1 : decide (12 < (r.length : Int)) = false := decide_eq_false (by omega)
  have C := fun W (hW : SinceOf w W) => refConvex_any A c r W (H.out.of hW) hlen
  cases hc : convexB r
  · rw [hc] at C
    clear hc
    go_enter Try.func18, Try.ntmps18
    go_wp2_with fail
    refine (awake18_any _).calls.mono ?_
    rintro e _ ⟨rfl, x1, rfl⟩
    go_wp2_with fail
    refine (C _ (by (repeat (first | (with_reducible exact SinceOf.refl _) | (with_reducible assumption) | (with_reducible refine SinceOf.alloc ?_ _) | (with_reducible refine SinceOf.drew ?_) | (with_reducible refine SinceOf.drewN ?_ _) | (with_reducible refine SinceOf.later ?_ _) | (with_reducible refine SinceOf.further ?_ _) | (with_reducible refine SinceOf.setCell ?_ (by first | exact Nat.le_refl _ | (simp; done) | omega | (simp; omega)) _))))).calls.mono ?_
    rintro e _ ⟨rfl, x2, rfl⟩
    go_wp2_with fail
    go_returns
    exact ⟨rfl, by (repeat (first | (with_reducible exact SinceOf.refl _) | (with_reducible assumption) | (with_reducible refine SinceOf.alloc ?_ _) | (with_reducible refine SinceOf.drew ?_) | (with_reducible refine SinceOf.drewN ?_ _) | (with_reducible refine SinceOf.later ?_ _) | (with_reducible refine SinceOf.further ?_ _) | (with_reducible refine SinceOf.setCell ?_ (by first | exact Nat.le_refl _ | (simp; done) | omega | (simp; omega)) _)))⟩
  rw [hc] at C
  have HC := Lib.hid hc
  have hr3 := (convexB_iff.1 hc).1
  clear hc
  go_enter Try.func18, Try.ntmps18
  go_wp2_with fail
  refine (awake18_any _).calls.mono ?_
  rintro e _ ⟨rfl, x1, rfl⟩
  go_wp2_with fail
  refine (C _ (by (repeat (first | (with_reducible exact SinceOf.refl _) | (with_reducible assumption) | (with_reducible refine SinceOf.alloc ?_ _) | (with_reducible refine SinceOf.drew ?_) | (with_reducible refine SinceOf.drewN ?_ _) | (with_reducible refine SinceOf.later ?_ _) | (with_reducible refine SinceOf.further ?_ _) | (with_reducible refine SinceOf.setCell ?_ (by first | exact Nat.le_refl _ | (simp; done) | omega | (simp; omega)) _))))).calls.mono ?_
  rintro e _ ⟨rfl, x2, rfl⟩
  clear C g1
  go_wp2_with fail
  go_loopg [7] r.length (fun gas s7 wr => ∃ i : Nat, i ≤ r.length ∧ r.length - i ≤ gas ∧ s7 = .int .i64 i ∧ SinceOf w wr ∧ ∀ p ∈ r.take i, near 4000 p)
  case atStart => exact ⟨0, by omega, by omega, rfl, by (repeat (first | (with_reducible exact SinceOf.refl _) | (with_reducible assumption) | (with_reducible refine SinceOf.alloc ?_ _) | (with_reducible refine SinceOf.drew ?_) | (with_reducible refine SinceOf.drewN ?_ _) | (with_reducible refine SinceOf.later ?_ _) | (with_reducible refine SinceOf.further ?_ _) | (with_reducible refine SinceOf.setCell ?_ (by first | exact Nat.le_refl _ | (simp; done) | omega | (simp; omega)) _))), fun p hp => by simp at hp⟩
  case round =>
    obtain ⟨i, hi, hgas, rfl, ⟨z, rfl⟩, hnr⟩ := hrel
    by_cases hlt : i < r.length
    · have hv := H.out.of (w' := z.wd) (by (repeat (first | (with_reducible exact SinceOf.refl _) | (with_reducible assumption) | (with_reducible refine SinceOf.alloc ?_ _) | (with_reducible refine SinceOf.drew ?_) | (with_reducible refine SinceOf.drewN ?_ _) | (with_reducible refine SinceOf.later ?_ _) | (with_reducible refine SinceOf.further ?_ _) | (with_reducible refine SinceOf.setCell ?_ (by first | exact Nat.le_refl _ | (simp; done) | omega | (simp; omega)) _))))
      obtain ⟨g, off, rfl, hr⟩ := hv.at_ (by omega)
      have hO := hr.there
      have p0 := hr.v0 i hlt
      have p1 := hr.v1 i hlt
      have htk := List.take_succ_eq_append_getElem hlt
      have N4 := refWithin_any r[i].1 r[i].2 4000
      have hn4 := near_within (x := r[i].1) (y := r[i].2) (m := 4000) (by omega)
      rw [show (r[i].1, r[i].2) = r[i] from rfl] at hn4
      have HN := Lib.hid (And.intro hnr (And.intro htk hn4))
      clear hnr htk hn4 hr hv
      cases hb : withinB r[i].1 r[i].2 4000
      · rw [hb] at N4
        clear HN hb
        generalize r[i].1 = px at *
        generalize r[i].2 = py at *
        go_wp2_with fail
        refine (N4 _).calls.mono ?_
        rintro e _ ⟨rfl, y1, rfl⟩
        go_wp2_with fail
        go_returns
        exact ⟨rfl, by (repeat (first | (with_reducible exact SinceOf.refl _) | (with_reducible assumption) | (with_reducible refine SinceOf.alloc ?_ _) | (with_reducible refine SinceOf.drew ?_) | (with_reducible refine SinceOf.drewN ?_ _) | (with_reducible refine SinceOf.later ?_ _) | (with_reducible refine SinceOf.further ?_ _) | (with_reducible refine SinceOf.setCell ?_ (by first | exact Nat.le_refl _ | (simp; done) | omega | (simp; omega)) _)))⟩
      · rw [hb] at N4 HN
        clear hb
        have HP := Lib.hid (show ∀ p ∈ r.take (i + 1), near 4000 p from fun p hp => by
          rw [HN.out.2.1] at hp
          rcases List.mem_append.1 hp with hp | hp
          · exact HN.out.1 p hp
          · rw [show p = r[i] by simpa using hp]
            exact HN.out.2.2.1 rfl)
        clear HN
        generalize r[i].1 = px at *
        generalize r[i].2 = py at *
        go_wp2_with fail
        refine (N4 _).calls.mono ?_
        rintro e _ ⟨rfl, y1, rfl⟩
        go_wp2_with fail
        go_roundg (r.length - (i + 1))
        case measure => omega
        case rel => exact ⟨i + 1, hlt, Nat.le_refl _, by go_num, by (repeat (first | (with_reducible exact SinceOf.refl _) | (with_reducible assumption) | (with_reducible refine SinceOf.alloc ?_ _) | (with_reducible refine SinceOf.drew ?_) | (with_reducible refine SinceOf.drewN ?_ _) | (with_reducible refine SinceOf.later ?_ _) | (with_reducible refine SinceOf.further ?_ _) | (with_reducible refine SinceOf.setCell ?_ (by first | exact Nat.le_refl _ | (simp; done) | omega | (simp; omega)) _))), HP.out⟩
    · obtain rfl : i = r.length := by omega
      rw [List.take_length] at hnr
      have HN := Lib.hid hnr
      clear hnr hi hlt hgas
      obtain ⟨i, hi⟩ : ∃ i, i = t % 5 := ⟨_, rfl⟩
      obtain ⟨j, hj⟩ : ∃ j, j = u % 5 := ⟨_, rfl⟩
      have hi0 : 0 ≤ i := by omega
      have hi1 : i ≤ 4 := by omega
      have hj0 : 0 ≤ j := by omega
      have hj1 : j ≤ 4 := by omega
      have e1 : t % 5 = i := hi.symm
      have e2 : u % 5 = j := hj.symm
      clear hi hj
      obtain ⟨ra, rs, ga, gs, gt, hla, hin⟩ := contains_law HC.out (by omega) HN.out ⟨hi0, hi1⟩ ⟨hj0, hj1⟩
      have HG := Lib.hid (And.intro (growV_one (by omega) (by omega) ga) (And.intro (growV_one (by omega) (by omega) gs) (And.intro (growV_one (by omega) (by omega) gt) hin)))
      have hls : rs.length ≤ 160 := by
        have := hullRes_ok (by
          have hR := hullF_res (sumsL ra (octR (24 * j)))
          rw [← growF_ok (growF_convex ga), gs] at hR
          exact hR)
        exact this.2.1
      clear ga gs gt hin
      go_wp2_with fail
      have hzs := z.size
      have q1 := rings_one ⟨A, c, r⟩ (isRow_atG z.wd z.wd.heap.size ⟨A, c, r⟩ rfl) (H.out.of (by (repeat (first | (with_reducible exact SinceOf.refl _) | (with_reducible assumption) | (with_reducible refine SinceOf.alloc ?_ _) | (with_reducible refine SinceOf.drew ?_) | (with_reducible refine SinceOf.drewN ?_ _) | (with_reducible refine SinceOf.later ?_ _) | (with_reducible refine SinceOf.further ?_ _) | (with_reducible refine SinceOf.setCell ?_ (by first | exact Nat.le_refl _ | (simp; done) | omega | (simp; omega)) _))))) (by simp only; omega)
      refine (grow_any _ _ _ (24 * i) _ q1 (by simp)).mono ?_
      rintro e _ ⟨A1, c1, Y, err, rfl, hY, hgv, ⟨x3, rfl⟩⟩
      have hgv2 : (vxs Y, err) = ([ra], 0) := hgv.symm.trans HG.out.1
      injection hgv2 with hg1 hg2
      obtain ⟨⟨yA, yc, ys⟩, rfl, hys⟩ := vxs_one hg1
      simp only at hys
      subst hg2 hys
      have HY := Lib.hid hY
      clear hY hgv hg1 q1
      simp only [List.length_cons, List.length_nil]
      go_wp2_with fail
      refine (grow_any A1 c1 [⟨yA, yc, ys⟩] (24 * j) _ (HY.out.of (by (repeat (first | (with_reducible exact SinceOf.refl _) | (with_reducible assumption) | (with_reducible refine SinceOf.alloc ?_ _) | (with_reducible refine SinceOf.drew ?_) | (with_reducible refine SinceOf.drewN ?_ _) | (with_reducible refine SinceOf.later ?_ _) | (with_reducible refine SinceOf.further ?_ _) | (with_reducible refine SinceOf.setCell ?_ (by first | exact Nat.le_refl _ | (simp; done) | omega | (simp; omega)) _))))) (by simp)).mono ?_
      rintro e _ ⟨A2, c2, Y2, err, rfl, hY2, hgv, ⟨x4, rfl⟩⟩
      have hgv2 : (vxs Y2, err) = ([rs], 0) := hgv.symm.trans HG.out.2.1
      injection hgv2 with hg1 hg2
      obtain ⟨⟨zA, zc, zs⟩, rfl, hzs2⟩ := vxs_one hg1
      simp only at hzs2
      subst hg2 hzs2
      have HY2 := Lib.hid hY2
      clear hY2 hgv hg1
      simp only [List.length_cons, List.length_nil]
      go_wp2_with fail
      have q2 := rings_one ⟨A, c, r⟩ (isRow_atG x4.wd x4.wd.heap.size ⟨A, c, r⟩ rfl) (H.out.of (by (repeat (first | (with_reducible exact SinceOf.refl _) | (with_reducible assumption) | (with_reducible refine SinceOf.alloc ?_ _) | (with_reducible refine SinceOf.drew ?_) | (with_reducible refine SinceOf.drewN ?_ _) | (with_reducible refine SinceOf.later ?_ _) | (with_reducible refine SinceOf.further ?_ _) | (with_reducible refine SinceOf.setCell ?_ (by first | exact Nat.le_refl _ | (simp; done) | omega | (simp; omega)) _))))) (by simp only; omega)
      refine (grow_any _ _ _ (24 * i + 24 * j) _ q2 (by simp)).mono ?_
      rintro e _ ⟨A3, c3, Y3, err, rfl, hY3, hgv, ⟨x5, rfl⟩⟩
      have hgv2 : (vxs Y3, err) = ([zs], 0) := hgv.symm.trans HG.out.2.2.1
      injection hgv2 with hg1 hg2
      obtain ⟨⟨vA, vc, vs⟩, rfl, hvs⟩ := vxs_one hg1
      simp only at hvs
      subst hg2 hvs
      clear hgv hg1 q2
      simp only [List.length_cons, List.length_nil]
      obtain ⟨g3, off3, rfl, hr3⟩ := hY3.row.at_ (by simp)
      have hO3 := hr3.there
      have k3 := hr3.g0 0 (by simp)
      have hv3 := (hY3.all ⟨vA, vc, vs⟩ (by simp)).1
      have hY2' := HY2.out.of (w' := x5.wd) (by (repeat (first | (with_reducible exact SinceOf.refl _) | (with_reducible assumption) | (with_reducible refine SinceOf.alloc ?_ _) | (with_reducible refine SinceOf.drew ?_) | (with_reducible refine SinceOf.drewN ?_ _) | (with_reducible refine SinceOf.later ?_ _) | (with_reducible refine SinceOf.further ?_ _) | (with_reducible refine SinceOf.setCell ?_ (by first | exact Nat.le_refl _ | (simp; done) | omega | (simp; omega)) _))))
      obtain ⟨g2, off2, rfl, hr2⟩ := hY2'.row.at_ (by simp)
      have hO2 := hr2.there
      have k2 := hr2.g0 0 (by simp)
      have hv2 := (hY2'.all ⟨zA, zc, vs⟩ (by simp)).1
      simp only [List.getElem_cons_zero, Nat.add_zero] at k2 k3
      have S := fun W (hW : SinceOf x5.wd W) => refSame_any zA vA zc vc vs vs W (hv2.of hW) (hv3.of hW) (by omega) (by omega)
      rw [decide_eq_true (rfl : vs = vs)] at S
      clear hv2 hv3 hr2 hr3 hY2' hY3
      go_wp2_with fail
      refine region_later (by kernel_rfl) (by kernel_rfl) ?_
      repeat (go_big_quiet_step ((with_reducible refine Gives.later (S _ (by (repeat (first | (with_reducible exact SinceOf.refl _) | (with_reducible assumption) | (with_reducible refine SinceOf.alloc ?_ _) | (with_reducible refine SinceOf.drew ?_) | (with_reducible refine SinceOf.drewN ?_ _) | (with_reducible refine SinceOf.later ?_ _) | (with_reducible refine SinceOf.further ?_ _) | (with_reducible refine SinceOf.setCell ?_ (by first | exact Nat.le_refl _ | (simp; done) | omega | (simp; omega)) _))))))))
      refine wpQuiet_nil ?_
      rintro _ ⟨z4, rfl⟩
      clear S k2 k3
      go_wp2_with fail
      refine (octagon_any (24 * i) _).mono ?_
      rintro e _ ⟨A9, c9, o, e9, rfl, hv9, hr9, ⟨x6, rfl⟩⟩
      have ho : ∀ q ∈ o, q ∈ octR (24 * i) := fun q hq => by
        rcases hr9 with ⟨-, e, -⟩ | h9
        · rw [e] at hq; cases hq
        · have h1 := h9.1
          obtain ⟨e, -⟩ := octF_of h1 (by omega) (.inr h9)
          rw [octR_pos (by omega), ← e]
          exact hq
      have hol := octRes_len hr9
      have HO := Lib.hid (And.intro hv9 (show ∀ p ∈ r, whereV ys p ≠ 0 ∧ ∀ q ∈ o, whereV ys (sumOf p q) ≠ 0 from fun p hp => ⟨(HG.out.2.2.2 p hp).1, fun q hq => (HG.out.2.2.2 p hp).2 q (ho q hq)⟩))
      clear hv9 hr9 ho HG HY2
      obtain ⟨v, hv⟩ : SinceOf x3.wd x6.wd := by (repeat (first | (with_reducible exact SinceOf.refl _) | (with_reducible assumption) | (with_reducible refine SinceOf.alloc ?_ _) | (with_reducible refine SinceOf.drew ?_) | (with_reducible refine SinceOf.drewN ?_ _) | (with_reducible refine SinceOf.later ?_ _) | (with_reducible refine SinceOf.further ?_ _) | (with_reducible refine SinceOf.setCell ?_ (by first | exact Nat.le_refl _ | (simp; done) | omega | (simp; omega)) _)))
      rw [hv] at HO ⊢
      have hsv : SinceOf w v.wd := by rw [← hv]; (repeat (first | (with_reducible exact SinceOf.refl _) | (with_reducible assumption) | (with_reducible refine SinceOf.alloc ?_ _) | (with_reducible refine SinceOf.drew ?_) | (with_reducible refine SinceOf.drewN ?_ _) | (with_reducible refine SinceOf.later ?_ _) | (with_reducible refine SinceOf.further ?_ _) | (with_reducible refine SinceOf.setCell ?_ (by first | exact Nat.le_refl _ | (simp; done) | omega | (simp; omega)) _)))
      clear hv
      have hx3 : SinceOf w x3.wd := by (repeat (first | (with_reducible exact SinceOf.refl _) | (with_reducible assumption) | (with_reducible refine SinceOf.alloc ?_ _) | (with_reducible refine SinceOf.drew ?_) | (with_reducible refine SinceOf.drewN ?_ _) | (with_reducible refine SinceOf.later ?_ _) | (with_reducible refine SinceOf.further ?_ _) | (with_reducible refine SinceOf.setCell ?_ (by first | exact Nat.le_refl _ | (simp; done) | omega | (simp; omega)) _)))
      go_wp2_with fail
      go_loopg [18] r.length (fun gas s18 wr => ∃ n : Nat, n ≤ r.length ∧ r.length - n ≤ gas ∧ s18 = .int .i64 n ∧ SinceOf v.wd wr)
      case atStart => exact ⟨0, by omega, by omega, rfl, by (repeat (first | (with_reducible exact SinceOf.refl _) | (with_reducible assumption) | (with_reducible refine SinceOf.alloc ?_ _) | (with_reducible refine SinceOf.drew ?_) | (with_reducible refine SinceOf.drewN ?_ _) | (with_reducible refine SinceOf.later ?_ _) | (with_reducible refine SinceOf.further ?_ _) | (with_reducible refine SinceOf.setCell ?_ (by first | exact Nat.le_refl _ | (simp; done) | omega | (simp; omega)) _)))⟩
      case round =>
        obtain ⟨n, hn, hgas, rfl, ⟨y, rfl⟩⟩ := hrel
        by_cases hlt : n < r.length
        · have hvr := H.out.of (w' := y.wd) (hsv.trans ⟨y, rfl⟩)
          obtain ⟨g, off, rfl, hr⟩ := hvr.at_ (by omega)
          have hO := hr.there
          have p0 := hr.v0 n hlt
          have p1 := hr.v1 n hlt
          have hYy := HY.out.of (w' := y.wd) (by (repeat (first | (with_reducible exact SinceOf.refl _) | (with_reducible assumption) | (with_reducible refine SinceOf.alloc ?_ _) | (with_reducible refine SinceOf.drew ?_) | (with_reducible refine SinceOf.drewN ?_ _) | (with_reducible refine SinceOf.later ?_ _) | (with_reducible refine SinceOf.further ?_ _) | (with_reducible refine SinceOf.setCell ?_ (by first | exact Nat.le_refl _ | (simp; done) | omega | (simp; omega)) _))))
          obtain ⟨g1, off1, rfl, hr1⟩ := hYy.row.at_ (by simp)
          have hO1 := hr1.there
          have k1 := hr1.g0 0 (by simp)
          simp only [List.getElem_cons_zero, Nat.add_zero] at k1
          have hv1 := (hYy.all ⟨yA, yc, ys⟩ (by simp)).1
          have WW := fun W (hW : SinceOf y.wd W) => where_any yA yc ys r[n].1 r[n].2 W (hv1.of hW) (by omega)
          have hpin := HO.out.2 _ (List.getElem_mem hlt)
          have hw1 := hpin.1
          have gg : (whereV ys (r[n].1, r[n].2) == 0) = false := by simpa using hw1
          have HPn := Lib.hid hpin.2
          clear hpin hw1 hr hvr hr1 hYy
          have HV1 := Lib.hid hv1
          clear hv1
          generalize whereV ys (r[n].1, r[n].2) = wv at *
          have hrn : r[n] = (r[n].1, r[n].2) := rfl
          rw [hrn] at HPn
          clear hrn
          generalize r[n].1 = px at *
          generalize r[n].2 = py at *
          go_wp2_with fail
          refine region_later (by kernel_rfl) (by kernel_rfl) ?_
          repeat (go_big_quiet_step ((with_reducible refine Gives.later (WW _ (by (repeat (first | (with_reducible exact SinceOf.refl _) | (with_reducible assumption) | (with_reducible refine SinceOf.alloc ?_ _) | (with_reducible refine SinceOf.drew ?_) | (with_reducible refine SinceOf.drewN ?_ _) | (with_reducible refine SinceOf.later ?_ _) | (with_reducible refine SinceOf.further ?_ _) | (with_reducible refine SinceOf.setCell ?_ (by first | exact Nat.le_refl _ | (simp; done) | omega | (simp; omega)) _))))))))
          refine wpQuiet_nil ?_
          rintro _ ⟨z5, rfl⟩
          clear WW gg
          have p0' : z5.wd.cell? ⟨g, off + n * 2, none⟩ = some (.int .i64 px) := by rw [Later.cell]; exact p0
          have p1' : z5.wd.cell? ⟨g, off + n * 2 + 1, none⟩ = some (.int .i64 py) := by rw [Later.cell]; exact p1
          have k1' : z5.wd.cell? ⟨g1, off1, none⟩ = some (.slice yA ys.length yc) := by rw [Later.cell]; exact k1
          have hOz : Nonempty (Old z5.wd g) := inferInstance
          have hOz1 : Nonempty (Old z5.wd g1) := inferInstance
          clear p0 p1 k1
          go_wp2_with fail
          go_loopg [19] o.length (fun gas s19 wr => ∃ m : Nat, m ≤ o.length ∧ o.length - m ≤ gas ∧ s19 = .int .i64 m ∧ SinceOf z5.wd wr)
          case atStart => exact ⟨0, by omega, by omega, rfl, by (repeat (first | (with_reducible exact SinceOf.refl _) | (with_reducible assumption) | (with_reducible refine SinceOf.alloc ?_ _) | (with_reducible refine SinceOf.drew ?_) | (with_reducible refine SinceOf.drewN ?_ _) | (with_reducible refine SinceOf.later ?_ _) | (with_reducible refine SinceOf.further ?_ _) | (with_reducible refine SinceOf.setCell ?_ (by first | exact Nat.le_refl _ | (simp; done) | omega | (simp; omega)) _)))⟩
          case round =>
            obtain ⟨m, hm, hgas2, rfl, ⟨y2, rfl⟩⟩ := hrel
            by_cases hlt2 : m < o.length
            · have hvo := HO.out.1.of (w' := y2.wd) ((SinceOf.later ⟨y, rfl⟩ z5).trans ⟨y2, rfl⟩)
              obtain ⟨g9, off9, rfl, hr9⟩ := hvo.at_ (by omega)
              have hO9 := hr9.there
              have b0 := hr9.v0 m hlt2
              have b1 := hr9.v1 m hlt2
              have hw2 := HPn.out _ (List.getElem_mem hlt2)
              have AD := refAdd_any px py o[m].1 o[m].2
              have WW := fun W (hW : SinceOf y2.wd W) => where_any yA yc ys (wadd px o[m].1) (wadd py o[m].2) W (HV1.out.of ((SinceOf.later (SinceOf.refl y.wd) z5).trans ((SinceOf.trans ⟨y2, rfl⟩ hW)))) (by omega)
              have hw3 : whereV ys (wadd px o[m].1, wadd py o[m].2) ≠ 0 := hw2
              have gg : (whereV ys (wadd px o[m].1, wadd py o[m].2) == 0) = false := by simpa using hw3
              clear hw2 hw3 hr9 hvo
              generalize whereV ys (wadd px o[m].1, wadd py o[m].2) = wv2 at *
              generalize wadd px o[m].1 = sx at *
              generalize wadd py o[m].2 = sy at *
              generalize o[m].1 = ox at *
              generalize o[m].2 = oy at *
              have p0 : y2.wd.cell? ⟨g, off + n * 2, none⟩ = some (.int .i64 px) := by rw [Since.cell]; exact p0'
              have p1 : y2.wd.cell? ⟨g, off + n * 2 + 1, none⟩ = some (.int .i64 py) := by rw [Since.cell]; exact p1'
              have k1 : y2.wd.cell? ⟨g1, off1, none⟩ = some (.slice yA ys.length yc) := by rw [Since.cell]; exact k1'
              have hOy : Nonempty (Old y2.wd g) := inferInstance
              have hOy1 : Nonempty (Old y2.wd g1) := inferInstance
              go_wp2_with fail
              refine region_later (by kernel_rfl) (by kernel_rfl) ?_
              repeat (go_big_quiet_step ((first | with_reducible refine Gives.later (AD _) | with_reducible refine Gives.later (WW _ (by (repeat (first | (with_reducible exact SinceOf.refl _) | (with_reducible assumption) | (with_reducible refine SinceOf.alloc ?_ _) | (with_reducible refine SinceOf.drew ?_) | (with_reducible refine SinceOf.drewN ?_ _) | (with_reducible refine SinceOf.later ?_ _) | (with_reducible refine SinceOf.further ?_ _) | (with_reducible refine SinceOf.setCell ?_ (by first | exact Nat.le_refl _ | (simp; done) | omega | (simp; omega)) _))))))))
              refine wpQuiet_nil ?_
              rintro _ ⟨z6, rfl⟩
              go_wp2_with fail
              go_roundg (o.length - (m + 1))
              case measure => omega
              case rel => exact ⟨m + 1, hlt2, Nat.le_refl _, by go_num, by (repeat (first | (with_reducible exact SinceOf.refl _) | (with_reducible assumption) | (with_reducible refine SinceOf.alloc ?_ _) | (with_reducible refine SinceOf.drew ?_) | (with_reducible refine SinceOf.drewN ?_ _) | (with_reducible refine SinceOf.later ?_ _) | (with_reducible refine SinceOf.further ?_ _) | (with_reducible refine SinceOf.setCell ?_ (by first | exact Nat.le_refl _ | (simp; done) | omega | (simp; omega)) _)))⟩
            · obtain rfl : m = o.length := by omega
              go_wp2_with fail
              go_roundg (r.length - (n + 1))
              case measure => omega
              case rel => exact ⟨n + 1, hlt, Nat.le_refl _, by go_num, by (repeat (first | (with_reducible exact SinceOf.refl _) | (with_reducible assumption) | (with_reducible refine SinceOf.alloc ?_ _) | (with_reducible refine SinceOf.drew ?_) | (with_reducible refine SinceOf.drewN ?_ _) | (with_reducible refine SinceOf.later ?_ _) | (with_reducible refine SinceOf.further ?_ _) | (with_reducible refine SinceOf.setCell ?_ (by first | exact Nat.le_refl _ | (simp; done) | omega | (simp; omega)) _)))⟩
        · obtain rfl : n = r.length := by omega
          go_wp2_with fail
          go_returns
          exact ⟨rfl, hsv.trans ⟨y, rfl⟩⟩
end Go.Proofs.Yticmfmcflikneaa
