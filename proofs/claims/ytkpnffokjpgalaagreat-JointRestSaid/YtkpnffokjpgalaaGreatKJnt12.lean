/- Layer 46: meet of package seg at parallel segments; Meet and Share. -/
import Derived.Test.YtkpnffokjpgalaaGreatKJnt10
namespace Go.Proofs.YtkpnffokjpgalaaGreat
set_option linter.unusedVariables false
set_option linter.unusedSimpArgs false
open Go.RowKit Go.Sort
attribute [local go_sem ↓] Go.wp_at_zero Go.wp_at_succ

theorem isRow_at4J (W : World) (g : Nat) (a b c d e f x y : Int) (hg : W.heap.size = g) (T : TypeId) : Live encV 2 (W.alloc (.cells #[.int .i64 a, .int .i64 b, .int .i64 c, .int .i64 d, .int .i64 e, .int .i64 f, .int .i64 x, .int .i64 y] T)) g 0 [(a, b), (c, d), (e, f), (x, y)] := by
  subst hg
  refine ⟨⟨fun i hi j u hu => ?_, inferInstance⟩, fun j hj => by simp [go_sem]⟩
  have hi : i < 4 := hi
  have hj : j < 2 := by
    have := (List.getElem?_eq_some_iff.1 hu).1
    rwa [encV_len] at this
  rcases (by omega : i = 0 ∨ i = 1 ∨ i = 2 ∨ i = 3) with rfl | rfl | rfl | rfl <;> rcases (by omega : j = 0 ∨ j = 1) with rfl | rfl <;> (simp [encV] at hu; subst hu; simp [go_sem])
set_option maxRecDepth 100000 in
set_option maxHeartbeats 16000000 in
theorem meet_par (s t : SegP) (hs : segOk s = true) (ht : segOk t = true) (h0 : cr4 s.1 s.2 t.1 t.2 = 0) (w : World) : Calls Tryz.prog 89 #[sgv s, sgv t] w (MeetE w (meetK s.1 s.2 t.1 t.2)) := by
  obtain ⟨M1, M2, M3, M4⟩ := meet_tests hs ht h0
  have V1 := segValid_any s
  have V2 := segValid_any t
  rw [hs] at V1
  rw [ht] at V2
  obtain ⟨h1, h2⟩ := segOk_near.1 hs
  obtain ⟨h3, h4⟩ := segOk_near.1 ht
  obtain ⟨e1, e2, s1, s2⟩ := sub_sml h1 h2
  obtain ⟨e3, e4, s3, s4⟩ := sub_sml h3 h4
  have S1 := sub_any s.2.1 s.2.2 s.1.1 s.1.2
  have S2 := sub_any t.2.1 t.2.2 t.1.1 t.1.2
  rw [e1, e2] at S1
  rw [e3, e4] at S2
  have C1 := cross_any (s.2.1 - s.1.1) (s.2.2 - s.1.2) (t.2.1 - t.1.1) (t.2.2 - t.1.2)
  rw [(cross_sml s1 s2 s3 s4).1, show (s.2.1 - s.1.1) * (t.2.2 - t.1.2) - (s.2.2 - s.1.2) * (t.2.1 - t.1.1) = 0 from h0] at C1
  have O1 := segOn_any t s.1
  have O2 := segOn_any s t.1
  have I1 := single_any s.1.1 s.1.2
  have I2 := single_any t.1.1 t.1.2
  have T1 := turn_any s.1.1 s.1.2 s.2.1 s.2.2 t.1.1 t.1.2
  have EK := fun x => endsK_near h1 h2 h3 h4 x
  have EN := fun x hx => endsK_next h1 h2 h3 h4 x hx
  have lo4 : near4 (loK s.1 s.2 t.1 t.2) := loK_near h1 h2 h3 h4
  have hi4 : near4 (hiK s.1 s.2 t.1 t.2) := hiK_near h1 h2 h3 h4
  have E4 : endsK s.1 s.2 t.1 t.2 4 = [mnK s.1 s.2, mxK s.1 s.2, mnK t.1 t.2, mxK t.1 t.2] := rfl
  have N4 : near4 (mnK s.1 s.2) ∧ near4 (mxK s.1 s.2) ∧ near4 (mnK t.1 t.2) ∧ near4 (mxK t.1 t.2) := ⟨mnK_near h1 h2, mxK_near h1 h2, mnK_near h3 h4, mxK_near h3 h4⟩
  have LO : loK s.1 s.2 t.1 t.2 = if key (mnK s.1 s.2) < key (mnK t.1 t.2) then mnK t.1 t.2 else mnK s.1 s.2 := rfl
  have HI : hiK s.1 s.2 t.1 t.2 = if key (mxK t.1 t.2) < key (mxK s.1 s.2) then mxK t.1 t.2 else mxK s.1 s.2 := rfl
  have E0 : endsK s.1 s.2 t.1 t.2 0 = [s.1, s.2, t.1, t.2] := rfl
  generalize hK : meetK s.1 s.2 t.1 t.2 = K at *
  have HM := Lib.hid (And.intro M1 (And.intro M2 (And.intro M3 M4)))
  have HE := Lib.hid (And.intro EK (And.intro EN (And.intro E4 (And.intro E0 (And.intro LO (And.intro HI (And.intro N4 (And.intro lo4 hi4))))))))
  clear M1 M2 M3 M4 EK EN E4 E0 LO HI hK N4 lo4 hi4
  generalize endsK s.1 s.2 t.1 t.2 = EL at *
  generalize loK s.1 s.2 t.1 t.2 = LOP at *
  generalize hiK s.1 s.2 t.1 t.2 = HIP at *
  generalize s.2.1 - s.1.1 = ux at *
  generalize s.2.2 - s.1.2 = uy at *
  generalize t.2.1 - t.1.1 = vx at *
  generalize t.2.2 - t.1.2 = vy at *
  clear hs ht h1 h2 h3 h4 e1 e2 e3 e4 s1 s2 s3 s4 h0
  generalize onB t s.1 = o1 at *
  generalize onB s t.1 = o2 at *
  generalize turnI s.1.1 s.1.2 s.2.1 s.2.2 t.1.1 t.1.2 = tn at *
  generalize mnK s.1 s.2 = m0 at *
  generalize mxK s.1 s.2 = m1 at *
  generalize mnK t.1 t.2 = m2 at *
  generalize mxK t.1 t.2 = m3 at *
  obtain ⟨⟨ax, ay⟩, bx, by'⟩ := s
  obtain ⟨⟨cx, cy⟩, dx, dy⟩ := t
  simp only at *
  go_enter Tryz.func89, Tryz.ntmps89
  go_wp2_with fail
  refine (V1 _).calls.mono ?_
  rintro e _ ⟨rfl, x1, rfl⟩
  go_wp2_with fail
  refine (V2 _).calls.mono ?_
  rintro e _ ⟨rfl, x2, rfl⟩
  go_wp2_with fail
  refine region_later (by kernel_rfl) (by kernel_rfl) ?_
  repeat (go_big_quiet_step ((first | (with_reducible refine Gives.later (S1 _)) | (with_reducible refine Gives.later (S2 _)) | (with_reducible refine Gives.later (C1 _)))))
  refine wpQuiet_nil ?_
  rintro _ ⟨x3, rfl⟩
  clear V1 V2 S1 S2 C1
  obtain ⟨b1, hb1⟩ : ∃ b, b = (eqv ax ay bx by' && o1) := ⟨_, rfl⟩
  obtain ⟨b2, hb2⟩ : ∃ b, b = (eqv cx cy dx dy && o2) := ⟨_, rfl⟩
  obtain ⟨b3, hb3⟩ : ∃ b, b = (eqv ax ay bx by' || eqv cx cy dx dy || (tn != 0)) := ⟨_, rfl⟩
  rw [← hb1, ← hb2, ← hb3] at HM
  have HB := Lib.hid (And.intro hb1 (And.intro hb2 hb3))
  clear hb1 hb2 hb3
  go_upto_region 6 with fail
  go_cut [36] from 36 to 47 (fun s36 wx => s36 = .bool b1 ∧ LaterOf x3.wd wx)
  case first =>
    cases hq : eqv ax ay bx by'
    · go_wp2_with fail
      go_meet
      exact ⟨by rw [HB.out.1, hq]; rfl, by (repeat (first | (with_reducible exact LaterOf.refl _) | (with_reducible refine LaterOf.alloc ?_ _) | (with_reducible refine LaterOf.drew ?_) | (with_reducible refine LaterOf.drewN ?_ _) | (with_reducible refine LaterOf.later ?_ _) | (with_reducible refine LaterOf.setCell ?_ (by first | exact Nat.le_refl _ | (simp; done) | omega | (simp; omega)) _)))⟩
    · go_wp2_with fail
      refine (O1 _).calls.mono ?_
      rintro e _ ⟨rfl, x4, rfl⟩
      go_wp2_with fail
      go_meet
      exact ⟨by rw [HB.out.1, hq]; rfl, by (repeat (first | (with_reducible exact LaterOf.refl _) | (with_reducible refine LaterOf.alloc ?_ _) | (with_reducible refine LaterOf.drew ?_) | (with_reducible refine LaterOf.drewN ?_ _) | (with_reducible refine LaterOf.later ?_ _) | (with_reducible refine LaterOf.setCell ?_ (by first | exact Nat.le_refl _ | (simp; done) | omega | (simp; omega)) _)))⟩
  case rest =>
    obtain ⟨rfl, ⟨x4, rfl⟩⟩ := hcut
    clear O1
    cases b1
    case true =>
      obtain rfl : K = (1, noSeg) := HM.out.1 rfl
      go_wp2_with fail
      refine (I1 _).calls.mono ?_
      rintro e _ ⟨rfl, x5, rfl⟩
      go_wp2_with fail
      go_returns
      exact ⟨_, _, _, rfl, by (repeat (first | (with_reducible exact LaterOf.refl _) | (with_reducible refine LaterOf.alloc ?_ _) | (with_reducible refine LaterOf.drew ?_) | (with_reducible refine LaterOf.drewN ?_ _) | (with_reducible refine LaterOf.later ?_ _) | (with_reducible refine LaterOf.setCell ?_ (by first | exact Nat.le_refl _ | (simp; done) | omega | (simp; omega)) _)))⟩
    case false =>
      go_upto_region 8 with fail
      go_cut [51] from 51 to 62 (fun s51 wx => s51 = .bool b2 ∧ LaterOf x4.wd wx)
      case first =>
        cases hq : eqv cx cy dx dy
        · go_wp2_with fail
          go_meet
          exact ⟨by rw [HB.out.2.1, hq]; rfl, by (repeat (first | (with_reducible exact LaterOf.refl _) | (with_reducible refine LaterOf.alloc ?_ _) | (with_reducible refine LaterOf.drew ?_) | (with_reducible refine LaterOf.drewN ?_ _) | (with_reducible refine LaterOf.later ?_ _) | (with_reducible refine LaterOf.setCell ?_ (by first | exact Nat.le_refl _ | (simp; done) | omega | (simp; omega)) _)))⟩
        · go_wp2_with fail
          refine (O2 _).calls.mono ?_
          rintro e _ ⟨rfl, x5, rfl⟩
          go_wp2_with fail
          go_meet
          exact ⟨by rw [HB.out.2.1, hq]; rfl, by (repeat (first | (with_reducible exact LaterOf.refl _) | (with_reducible refine LaterOf.alloc ?_ _) | (with_reducible refine LaterOf.drew ?_) | (with_reducible refine LaterOf.drewN ?_ _) | (with_reducible refine LaterOf.later ?_ _) | (with_reducible refine LaterOf.setCell ?_ (by first | exact Nat.le_refl _ | (simp; done) | omega | (simp; omega)) _)))⟩
      case rest =>
        obtain ⟨rfl, ⟨x5, rfl⟩⟩ := hcut
        clear O2
        cases b2
        case true =>
          obtain rfl : K = (1, noSeg) := HM.out.2.1 rfl rfl
          go_wp2_with fail
          refine (I2 _).calls.mono ?_
          rintro e _ ⟨rfl, x6, rfl⟩
          go_wp2_with fail
          go_returns
          exact ⟨_, _, _, rfl, by (repeat (first | (with_reducible exact LaterOf.refl _) | (with_reducible refine LaterOf.alloc ?_ _) | (with_reducible refine LaterOf.drew ?_) | (with_reducible refine LaterOf.drewN ?_ _) | (with_reducible refine LaterOf.later ?_ _) | (with_reducible refine LaterOf.setCell ?_ (by first | exact Nat.le_refl _ | (simp; done) | omega | (simp; omega)) _)))⟩
        case false =>
          go_upto_region 10 with fail
          go_cut [66] from 66 to 88 (fun s66 wx => s66 = .bool b3 ∧ LaterOf x5.wd wx)
          case first =>
            cases hq : eqv ax ay bx by'
            · cases hq2 : eqv cx cy dx dy
              · go_wp2_with fail
                refine (T1 _).calls.mono ?_
                rintro e _ ⟨rfl, x6, rfl⟩
                go_wp2_with fail
                go_meet
                exact ⟨by rw [HB.out.2.2, hq, hq2]; rfl, by (repeat (first | (with_reducible exact LaterOf.refl _) | (with_reducible refine LaterOf.alloc ?_ _) | (with_reducible refine LaterOf.drew ?_) | (with_reducible refine LaterOf.drewN ?_ _) | (with_reducible refine LaterOf.later ?_ _) | (with_reducible refine LaterOf.setCell ?_ (by first | exact Nat.le_refl _ | (simp; done) | omega | (simp; omega)) _)))⟩
              · go_wp2_with fail
                go_meet
                exact ⟨by rw [HB.out.2.2, hq, hq2]; rfl, by (repeat (first | (with_reducible exact LaterOf.refl _) | (with_reducible refine LaterOf.alloc ?_ _) | (with_reducible refine LaterOf.drew ?_) | (with_reducible refine LaterOf.drewN ?_ _) | (with_reducible refine LaterOf.later ?_ _) | (with_reducible refine LaterOf.setCell ?_ (by first | exact Nat.le_refl _ | (simp; done) | omega | (simp; omega)) _)))⟩
            · go_wp2_with fail
              go_meet
              exact ⟨by rw [HB.out.2.2, hq]; rfl, by (repeat (first | (with_reducible exact LaterOf.refl _) | (with_reducible refine LaterOf.alloc ?_ _) | (with_reducible refine LaterOf.drew ?_) | (with_reducible refine LaterOf.drewN ?_ _) | (with_reducible refine LaterOf.later ?_ _) | (with_reducible refine LaterOf.setCell ?_ (by first | exact Nat.le_refl _ | (simp; done) | omega | (simp; omega)) _)))⟩
          case rest =>
            obtain ⟨rfl, ⟨x6, rfl⟩⟩ := hcut
            clear T1
            cases b3
            case true =>
              obtain rfl : K = (0, noSeg) := HM.out.2.2.1 rfl rfl rfl
              go_wp2_with fail
              go_returns
              exact ⟨_, _, _, rfl, by (repeat (first | (with_reducible exact LaterOf.refl _) | (with_reducible refine LaterOf.alloc ?_ _) | (with_reducible refine LaterOf.drew ?_) | (with_reducible refine LaterOf.drewN ?_ _) | (with_reducible refine LaterOf.later ?_ _) | (with_reducible refine LaterOf.setCell ?_ (by first | exact Nat.le_refl _ | (simp; done) | omega | (simp; omega)) _)))⟩
            case false =>
              have HK := Lib.hid (HM.out.2.2.2 rfl rfl rfl)
              clear HM HB I1 I2
              have L0 : ∀ W : World, W.heap.size = x6.wd.heap.size → ∀ T, Live encV 2 (W.alloc (.cells #[.int .i64 ax, .int .i64 ay, .int .i64 bx, .int .i64 by', .int .i64 cx, .int .i64 cy, .int .i64 dx, .int .i64 dy] T)) x6.wd.heap.size 0 (EL 0) := fun W h T => by
                rw [HE.out.2.2.2.1]
                exact isRow_at4J W _ ax ay bx by' cx cy dx dy h T
              have HL0 := Lib.hid L0
              clear L0
              go_wp2_with fail
              go_loopg [7] 4 (fun gas s7 wr => ∃ x : Nat, (x = 0 ∨ x = 2 ∨ x = 4) ∧ 4 - x ≤ gas ∧ s7 = .int .i64 (x : Int) ∧ Live encV 2 wr x6.wd.heap.size 0 (EL x) ∧ LaterOf x6.wd wr)
              case atStart => exact ⟨0, by simp, by omega, rfl, HL0.out _ rfl _, by (repeat (first | (with_reducible exact LaterOf.refl _) | (with_reducible refine LaterOf.alloc ?_ _) | (with_reducible refine LaterOf.drew ?_) | (with_reducible refine LaterOf.drewN ?_ _) | (with_reducible refine LaterOf.later ?_ _) | (with_reducible refine LaterOf.setCell ?_ (by first | exact Nat.le_refl _ | (simp; done) | omega | (simp; omega)) _)))⟩
              case round =>
                clear HL0
                obtain ⟨x, hx, hgas, rfl, hlv, ⟨z, rfl⟩⟩ := hrel
                have hzs := z.size
                by_cases hlt : x < 4
                · have hx2 : x = 0 ∨ x = 2 := by omega
                  have hn := HE.out.2.1 x hx2
                  obtain ⟨hl, hnr⟩ := HE.out.1 x
                  obtain ⟨L, hL⟩ : ∃ L, L = EL x := ⟨_, rfl⟩
                  rw [← hL] at hlv hn hl hnr
                  obtain ⟨y, hy⟩ : ∃ y, y = x + 1 := ⟨_, rfl⟩
                  rw [← hy] at hn
                  have ey : (x : Int) + 1 = (y : Int) := by omega
                  have hxl : x < L.length := by omega
                  have hyl : y < L.length := by omega
                  have x0 := hlv.row.v0 x hxl
                  have x1 := hlv.row.v1 x hxl
                  have y0 := hlv.row.v0 y hyl
                  have y1 := hlv.row.v1 y hyl
                  rw [show L[x] = at0 L x from (at0_eq hxl).symm] at x0 x1
                  rw [show L[y] = at0 L y from (at0_eq hyl).symm] at y0 y1
                  have Le := less_key (hnr y (by omega)) (hnr x (by omega))
                  obtain ⟨bv, hbv⟩ : ∃ b, b = decide (key (at0 L y) < key (at0 L x)) := ⟨_, rfl⟩
                  rw [← hbv] at Le
                  have hn' : EL (x + 2) = if bv = true then swp2 L x y else L := by rw [hn, hbv]; simp only [decide_eq_true_eq]
                  obtain ⟨⟨px, py⟩, hp⟩ : ∃ p, p = at0 L x := ⟨_, rfl⟩
                  obtain ⟨⟨qx, qy⟩, hq⟩ : ∃ q, q = at0 L y := ⟨_, rfl⟩
                  rw [← hp] at x0 x1 Le
                  rw [← hq] at y0 y1 Le
                  simp only [Nat.zero_add] at x0 x1 y0 y1 Le
                  have hO : Nonempty (Old z.wd x6.wd.heap.size) := hlv.row.there
                  have HS := Lib.hid (And.intro hlv (And.intro hp.symm (And.intro hq.symm (And.intro hxl (And.intro hyl hn')))))
                  have hy4 : y < 4 := by omega
                  clear hlv hp hq hn hn' hbv hL hnr hl hxl hyl hy hx2
                  go_wp2_with fail
                  refine region_later (by kernel_rfl) (by kernel_rfl) ?_
                  repeat (go_big_quiet_step (((with_reducible refine Gives.later (Le _)))))
                  refine wpQuiet_nil ?_
                  rintro _ ⟨z2, rfl⟩
                  clear Le
                  cases bv
                  · go_wp2_with fail
                    go_roundg (4 - (x + 2))
                    case measure => omega
                    case rel => exact ⟨x + 2, by omega, Nat.le_refl _, by go_num, (by rw [HS.out.2.2.2.2.2]; exact HS.out.1.of (by (repeat (first | (with_reducible exact SinceOf.refl _) | (with_reducible assumption) | (with_reducible refine SinceOf.alloc ?_ _) | (with_reducible refine SinceOf.drew ?_) | (with_reducible refine SinceOf.drewN ?_ _) | (with_reducible refine SinceOf.later ?_ _) | (with_reducible refine SinceOf.further ?_ _) | (with_reducible refine SinceOf.setCell ?_ (by first | exact Nat.le_refl _ | (simp; done) | omega | (simp; omega)) _))))), by (repeat (first | (with_reducible exact LaterOf.refl _) | (with_reducible refine LaterOf.alloc ?_ _) | (with_reducible refine LaterOf.drew ?_) | (with_reducible refine LaterOf.drewN ?_ _) | (with_reducible refine LaterOf.later ?_ _) | (with_reducible refine LaterOf.setCell ?_ (by first | exact Nat.le_refl _ | (simp; done) | omega | (simp; omega)) _)))⟩
                  · have hl2 := HS.out.1.of (w' := z2.wd) (by (repeat (first | (with_reducible exact SinceOf.refl _) | (with_reducible assumption) | (with_reducible refine SinceOf.alloc ?_ _) | (with_reducible refine SinceOf.drew ?_) | (with_reducible refine SinceOf.drewN ?_ _) | (with_reducible refine SinceOf.later ?_ _) | (with_reducible refine SinceOf.further ?_ _) | (with_reducible refine SinceOf.setCell ?_ (by first | exact Nat.le_refl _ | (simp; done) | omega | (simp; omega)) _))))
                    have fx0 := hl2.free (x * 2) (by have := HS.out.2.2.2.1; omega)
                    have fx1 := hl2.free (x * 2 + 1) (by have := HS.out.2.2.2.1; omega)
                    have fy0 := hl2.free (y * 2) (by have := HS.out.2.2.2.2.1; omega)
                    have fy1 := hl2.free (y * 2 + 1) (by have := HS.out.2.2.2.2.1; omega)
                    simp only [Nat.zero_add] at fx0 fx1 fy0 fy1
                    have hsw := hl2.swapJ HS.out.2.2.2.1 HS.out.2.2.2.2.1 HS.out.2.1 HS.out.2.2.1
                    simp only [Nat.zero_add] at hsw
                    have c0 : z2.wd.cell? ⟨x6.wd.heap.size, x * 2, none⟩ = some (.int .i64 px) := by simp [go_sem, x0]
                    have c1 : z2.wd.cell? ⟨x6.wd.heap.size, x * 2 + 1, none⟩ = some (.int .i64 py) := by simp [go_sem, x1]
                    have c2 : z2.wd.cell? ⟨x6.wd.heap.size, y * 2, none⟩ = some (.int .i64 qx) := by simp [go_sem, y0]
                    have c3 : z2.wd.cell? ⟨x6.wd.heap.size, y * 2 + 1, none⟩ = some (.int .i64 qy) := by simp [go_sem, y1]
                    have HW := Lib.hid hsw
                    have hne : ¬ x = y := by omega
                    have hO2 : Nonempty (Old z2.wd x6.wd.heap.size) := inferInstance
                    clear hl2 hsw x0 x1 y0 y1
                    go_upto_region 17 with fail
                    go_big_region
                    all_goals go_wp2_with fail
                    all_goals go_roundg (4 - (x + 2))
                    case measure => omega
                    case rel => exact ⟨x + 2, by omega, Nat.le_refl _, by go_num, (by rw [HS.out.2.2.2.2.2]; exact HW.out.of ((SinceOf.refl _).drew)), by (repeat (first | (with_reducible exact LaterOf.refl _) | (with_reducible refine LaterOf.alloc ?_ _) | (with_reducible refine LaterOf.drew ?_) | (with_reducible refine LaterOf.drewN ?_ _) | (with_reducible refine LaterOf.later ?_ _) | (with_reducible refine LaterOf.setCell ?_ (by first | exact Nat.le_refl _ | (simp; done) | omega | (simp; omega)) _)))⟩
                · obtain rfl : x = 4 := by omega
                  rw [HE.out.2.2.1] at hlv
                  obtain ⟨n0, n1, n2, n3⟩ := HE.out.2.2.2.2.2.2.1
                  have L1 := less_key n0 n2
                  have L2 := less_key n3 n1
                  have CP := compare_any LOP.1 LOP.2 HIP.1 HIP.2
                  rw [vcmp_key HE.out.2.2.2.2.2.2.2.1 HE.out.2.2.2.2.2.2.2.2] at CP
                  have HF := Lib.hid (And.intro HE.out.2.2.2.2.1 (And.intro HE.out.2.2.2.2.2.1 HK.out))
                  clear HE HK n0 n1 n2 n3
                  have k00 := hlv.row.v0 0 (by simp)
                  have k01 := hlv.row.v1 0 (by simp)
                  have k10 := hlv.row.v0 1 (by simp)
                  have k11 := hlv.row.v1 1 (by simp)
                  have k20 := hlv.row.v0 2 (by simp)
                  have k21 := hlv.row.v1 2 (by simp)
                  have k30 := hlv.row.v0 3 (by simp)
                  have k31 := hlv.row.v1 3 (by simp)
                  simp at k00 k01 k10 k11 k20 k21 k30 k31
                  have hO : Nonempty (Old z.wd x6.wd.heap.size) := hlv.row.there
                  clear hlv hx hgas hlt
                  obtain ⟨m00, m01⟩ := m0
                  obtain ⟨m10, m11⟩ := m1
                  obtain ⟨m20, m21⟩ := m2
                  obtain ⟨m30, m31⟩ := m3
                  obtain ⟨LX, LY⟩ := LOP
                  obtain ⟨HX, HY⟩ := HIP
                  simp only at *
                  go_upto_region 18 with fail
                  go_cut [8, 9] from 123 to 126 (fun s8 s9 wx => ∃ b8 b9 : Nat, s8 = .pointer (some ⟨b8, 0, none⟩) ∧ s9 = .pointer (some ⟨b9, 0, none⟩) ∧ ¬ b8 = b9 ∧ z.wd.heap.size ≤ b8 ∧ z.wd.heap.size ≤ b9 ∧ VarJ wx b8 (m00, m01) ∧ VarJ wx b9 (m10, m11) ∧ LaterOf z.wd wx)
                  case first =>
                    go_region
                    all_goals
                      go_wp2_with fail
                      go_meet
                      refine ⟨_, _, rfl, rfl, ?_, ?_, ?_, ?_, ?_, by (repeat (first | (with_reducible exact LaterOf.refl _) | (with_reducible refine LaterOf.alloc ?_ _) | (with_reducible refine LaterOf.drew ?_) | (with_reducible refine LaterOf.drewN ?_ _) | (with_reducible refine LaterOf.later ?_ _) | (with_reducible refine LaterOf.setCell ?_ (by first | exact Nat.le_refl _ | (simp; done) | omega | (simp; omega)) _)))⟩
                      · first | omega | (simp; done) | (simp; omega)
                      · first | omega | (simp; done) | (simp; omega)
                      · first | omega | (simp; done) | (simp; omega)
                      · (repeat (first | ((with_reducible refine VarJ.new1 _ _ _ _ _ ?_); (first | rfl | (simp; done) | omega | (simp; omega))) | (with_reducible refine VarJ.put (p := (0, 0)) ?_ _ _) | ((with_reducible refine VarJ.other ?_ ?_ _ _); rotate_left 1; (first | omega | (simp; omega))) | (with_reducible refine VarJ.allocd ?_ _) | (with_reducible refine VarJ.latr ?_ _) | (with_reducible refine VarJ.drewd ?_)))
                      · (repeat (first | ((with_reducible refine VarJ.new1 _ _ _ _ _ ?_); (first | rfl | (simp; done) | omega | (simp; omega))) | (with_reducible refine VarJ.put (p := (0, 0)) ?_ _ _) | ((with_reducible refine VarJ.other ?_ ?_ _ _); rotate_left 1; (first | omega | (simp; omega))) | (with_reducible refine VarJ.allocd ?_ _) | (with_reducible refine VarJ.latr ?_ _) | (with_reducible refine VarJ.drewd ?_)))
                  case rest =>
                    obtain ⟨b8, b9, rfl, rfl, hne, hb8, hb9, hv8, hv9, ⟨x7, rfl⟩⟩ := hcut
                    have o8 : Nonempty (Old x7.wd b8) := ⟨⟨hv8.lt⟩⟩
                    have o9 : Nonempty (Old x7.wd b9) := ⟨⟨hv9.lt⟩⟩
                    have u0 := hv8.c0
                    have u1 := hv8.c1
                    have g0 := hv8.f0
                    have g1 := hv8.f1
                    simp only at u0 u1
                    have HV := Lib.hid (And.intro hv8 hv9)
                    clear hv8 hv9
                    obtain ⟨bv, hbv⟩ : ∃ b, b = decide (key (m00, m01) < key (m20, m21)) := ⟨_, rfl⟩
                    rw [← hbv] at L1
                    have hlo : (LX, LY) = if bv = true then (m20, m21) else (m00, m01) := by rw [HF.out.1, hbv]; simp only [decide_eq_true_eq]
                    have HL := Lib.hid hlo
                    clear hbv hlo
                    go_wp2_with fail
                    refine (L1 _).calls.mono ?_
                    rintro e _ ⟨rfl, x8, rfl⟩
                    clear L1
                    go_upto_if 130 with fail
                    go_cut [] from 131 to 132 (fun wx => VarJ wx b8 (LX, LY) ∧ VarJ wx b9 (m10, m11) ∧ LaterOf z.wd wx)
                    case first =>
                      have v8 := HV.out.1.latr x8
                      have v9 := HV.out.2.latr x8
                      cases bv
                      · have w8 : VarJ x8.wd b8 (LX, LY) := by rw [HL.out, if_neg Bool.false_ne_true]; exact v8
                        have HW := Lib.hid (And.intro w8 v9)
                        clear v8 v9 w8
                        go_wp2_with fail
                        go_meet
                        exact ⟨HW.out.1, HW.out.2, by (repeat (first | (with_reducible exact LaterOf.refl _) | (with_reducible refine LaterOf.alloc ?_ _) | (with_reducible refine LaterOf.drew ?_) | (with_reducible refine LaterOf.drewN ?_ _) | (with_reducible refine LaterOf.later ?_ _) | (with_reducible refine LaterOf.setCell ?_ (by first | exact Nat.le_refl _ | (simp; done) | omega | (simp; omega)) _)))⟩
                      · have w8 : VarJ ((x8.wd.setCell ⟨b8, 0, none⟩ (.int .i64 m20)).setCell ⟨b8, 1, none⟩ (.int .i64 m21)) b8 (LX, LY) := by rw [HL.out, if_pos rfl]; exact v8.put m20 m21
                        have HW := Lib.hid (And.intro w8 (v9.other hne (.int .i64 m20) (.int .i64 m21)))
                        clear v8 v9 w8
                        go_wp2_with fail
                        go_meet
                        exact ⟨HW.out.1, HW.out.2, by (repeat (first | (with_reducible exact LaterOf.refl _) | (with_reducible refine LaterOf.alloc ?_ _) | (with_reducible refine LaterOf.drew ?_) | (with_reducible refine LaterOf.drewN ?_ _) | (with_reducible refine LaterOf.later ?_ _) | (with_reducible refine LaterOf.setCell ?_ (by first | exact Nat.le_refl _ | (simp; done) | omega | (simp; omega)) _)))⟩
                    case rest =>
                      obtain ⟨hv8, hv9, ⟨x9, rfl⟩⟩ := hcut
                      clear HV HL u0 u1 g0 g1 o8 o9
                      have o8 : Nonempty (Old x9.wd b8) := ⟨⟨hv8.lt⟩⟩
                      have o9 : Nonempty (Old x9.wd b9) := ⟨⟨hv9.lt⟩⟩
                      have u0 := hv9.c0
                      have u1 := hv9.c1
                      have g0 := hv9.f0
                      have g1 := hv9.f1
                      simp only at u0 u1
                      have HV := Lib.hid (And.intro hv8 hv9)
                      clear hv8 hv9
                      obtain ⟨bw, hbw⟩ : ∃ b, b = decide (key (m30, m31) < key (m10, m11)) := ⟨_, rfl⟩
                      rw [← hbw] at L2
                      have hlo : (HX, HY) = if bw = true then (m30, m31) else (m10, m11) := by rw [HF.out.2.1, hbw]; simp only [decide_eq_true_eq]
                      have HL := Lib.hid hlo
                      have hne2 : ¬ b9 = b8 := fun e => hne e.symm
                      clear hbw hlo
                      go_wp2_with fail
                      refine (L2 _).calls.mono ?_
                      rintro e _ ⟨rfl, x10, rfl⟩
                      clear L2
                      go_upto_if 136 with fail
                      go_cut [] from 137 to 138 (fun wx => VarJ wx b8 (LX, LY) ∧ VarJ wx b9 (HX, HY) ∧ LaterOf z.wd wx)
                      case first =>
                        have v8 := HV.out.1.latr x10
                        have v9 := HV.out.2.latr x10
                        cases bw
                        · have w9 : VarJ x10.wd b9 (HX, HY) := by rw [HL.out, if_neg Bool.false_ne_true]; exact v9
                          have HW := Lib.hid (And.intro v8 w9)
                          clear v8 v9 w9
                          go_wp2_with fail
                          go_meet
                          exact ⟨HW.out.1, HW.out.2, by (repeat (first | (with_reducible exact LaterOf.refl _) | (with_reducible refine LaterOf.alloc ?_ _) | (with_reducible refine LaterOf.drew ?_) | (with_reducible refine LaterOf.drewN ?_ _) | (with_reducible refine LaterOf.later ?_ _) | (with_reducible refine LaterOf.setCell ?_ (by first | exact Nat.le_refl _ | (simp; done) | omega | (simp; omega)) _)))⟩
                        · have w9 : VarJ ((x10.wd.setCell ⟨b9, 0, none⟩ (.int .i64 m30)).setCell ⟨b9, 1, none⟩ (.int .i64 m31)) b9 (HX, HY) := by rw [HL.out, if_pos rfl]; exact v9.put m30 m31
                          have HW := Lib.hid (And.intro (v8.other hne2 (.int .i64 m30) (.int .i64 m31)) w9)
                          clear v8 v9 w9
                          go_wp2_with fail
                          go_meet
                          exact ⟨HW.out.1, HW.out.2, by (repeat (first | (with_reducible exact LaterOf.refl _) | (with_reducible refine LaterOf.alloc ?_ _) | (with_reducible refine LaterOf.drew ?_) | (with_reducible refine LaterOf.drewN ?_ _) | (with_reducible refine LaterOf.later ?_ _) | (with_reducible refine LaterOf.setCell ?_ (by first | exact Nat.le_refl _ | (simp; done) | omega | (simp; omega)) _)))⟩
                      case rest =>
                        obtain ⟨hv8, hv9, ⟨x11, rfl⟩⟩ := hcut
                        clear HV HL u0 u1 g0 g1 o8 o9
                        have o8 : Nonempty (Old x11.wd b8) := ⟨⟨hv8.lt⟩⟩
                        have o9 : Nonempty (Old x11.wd b9) := ⟨⟨hv9.lt⟩⟩
                        have l0 := hv8.c0
                        have l1 := hv8.c1
                        have r0 := hv9.c0
                        have r1 := hv9.c1
                        simp only at l0 l1 r0 r1
                        clear hv8 hv9
                        have SL := single_any LX LY
                        have HK := Lib.hid HF.out.2.2
                        clear HF
                        have key3 : (key (LX, LY) = key (HX, HY) ∧ cmpi (key (LX, LY)) (key (HX, HY)) = 0) ∨ (key (LX, LY) < key (HX, HY) ∧ cmpi (key (LX, LY)) (key (HX, HY)) = -1) ∨ (key (HX, HY) < key (LX, LY) ∧ cmpi (key (LX, LY)) (key (HX, HY)) = 1) := by
                          generalize key (LX, LY) = u
                          generalize key (HX, HY) = v
                          unfold cmpi
                          split <;> (try split) <;> simp <;> omega
                        rcases key3 with ⟨hk, hc⟩ | ⟨hk, hc⟩ | ⟨hk, hc⟩
                        · rw [hc] at CP
                          obtain rfl : K = (1, noSeg) := by rw [HK.out, if_pos hk]
                          clear HK hk hc
                          go_wp2_with fail
                          refine (CP _).calls.mono ?_
                          rintro e _ ⟨rfl, x12, rfl⟩
                          go_wp2_with fail
                          refine (SL _).calls.mono ?_
                          rintro e _ ⟨rfl, x13, rfl⟩
                          go_wp2_with fail
                          go_returns
                          exact ⟨_, _, _, rfl, by (repeat (first | (with_reducible exact LaterOf.refl _) | (with_reducible refine LaterOf.alloc ?_ _) | (with_reducible refine LaterOf.drew ?_) | (with_reducible refine LaterOf.drewN ?_ _) | (with_reducible refine LaterOf.later ?_ _) | (with_reducible refine LaterOf.setCell ?_ (by first | exact Nat.le_refl _ | (simp; done) | omega | (simp; omega)) _)))⟩
                        · rw [hc] at CP
                          obtain rfl : K = (3, ((LX, LY), (HX, HY))) := by rw [HK.out, if_neg (by omega), if_pos hk]
                          clear HK hk hc
                          go_wp2_with fail
                          refine (CP _).calls.mono ?_
                          rintro e _ ⟨rfl, x12, rfl⟩
                          go_wp2_with fail
                          go_returns
                          exact ⟨_, _, _, rfl, by (repeat (first | (with_reducible exact LaterOf.refl _) | (with_reducible refine LaterOf.alloc ?_ _) | (with_reducible refine LaterOf.drew ?_) | (with_reducible refine LaterOf.drewN ?_ _) | (with_reducible refine LaterOf.later ?_ _) | (with_reducible refine LaterOf.setCell ?_ (by first | exact Nat.le_refl _ | (simp; done) | omega | (simp; omega)) _)))⟩
                        · rw [hc] at CP
                          obtain rfl : K = (0, noSeg) := by rw [HK.out, if_neg (by omega), if_neg (by omega)]
                          clear HK hk hc
                          go_wp2_with fail
                          refine (CP _).calls.mono ?_
                          rintro e _ ⟨rfl, x12, rfl⟩
                          go_wp2_with fail
                          go_returns
                          exact ⟨_, _, _, rfl, by (repeat (first | (with_reducible exact LaterOf.refl _) | (with_reducible refine LaterOf.alloc ?_ _) | (with_reducible refine LaterOf.drew ?_) | (with_reducible refine LaterOf.drewN ?_ _) | (with_reducible refine LaterOf.later ?_ _) | (with_reducible refine LaterOf.setCell ?_ (by first | exact Nat.le_refl _ | (simp; done) | omega | (simp; omega)) _)))⟩
theorem meet_any (s t : SegP) (w : World) : Calls Tryz.prog 89 #[sgv s, sgv t] w (MeetE w (meetP s t)) := by
  unfold meetP
  cases h : segOk s && segOk t
  · exact meet_bad s t h w
  · rw [if_pos rfl]
    rw [Bool.and_eq_true] at h
    by_cases h0 : cr4 s.1 s.2 t.1 t.2 = 0
    · exact meet_par s t h.1 h.2 h0 w
    · exact meet_skew s t h.1 h.2 h0 w
end Go.Proofs.YtkpnffokjpgalaaGreat
