/- Layer 54: the reference's Same and SameState, at equal results and states. -/
import Derived.Test.YtpaojgfmffkodaaGreatARep25
import Derived.Test.YtpaojgfmffkodaaGreatACal10
import Derived.Test.YtpaojgfmffkodaaGreatARep24
namespace Go.Proofs.YtpaojgfmffkodaaGreat
set_option linter.unusedVariables false
set_option linter.unusedSimpArgs false
open Go.RowKit Go.Sort
attribute [local go_sem ↓] Go.wp_at_zero Go.wp_at_succ
theorem map_at {α β : Type} {f : α → β} {l m : List α} (h : l.map f = m.map f) {i : Nat} (hl : i < l.length) (hm : i < m.length) : f l[i] = f m[i] := by
 have h1 : (l.map f)[i]'(by simpa using hl) = (m.map f)[i]'(by simpa using hm) := List.getElem_of_eq h _
 simpa using h1
theorem map_len {α β : Type} {f : α → β} {l m : List α} (h : l.map f = m.map f) : l.length = m.length := by simpa using congrArg List.length h
set_option maxRecDepth 100000 in
set_option maxHeartbeats 16000000 in
theorem refSameState_any (a b : StR) (w : World) (ha : IsState w a) (hb : IsState w b) (he : erSt a = erSt b) (h1 : a.bg.length < 4611686018427387904) (h2 : a.pd.length < 4611686018427387904) (h3 : a.L.length ≤ 1000000) (h4 : a.dr.length = a.L.length) :
 Yields Tryz.prog 17 #[stateV a, stateV b] w (.bool true) := by
 apply Yields.ret
 obtain ⟨⟨sA, sc, cals, sB, sd, R, most⟩, A, c, L, gA, gc, bg, pA, pc, pd, dA, dc, dr⟩ := a
 obtain ⟨⟨sA', sc', cals', sB', sd', R', most'⟩, A', c', L', gA', gc', bg', pA', pc', pd', dA', dc', dr'⟩ := b
 unfold erSt erS erL at he
 simp only [StP.mk.injEq, ShopR.mk.injEq, true_and] at he
 obtain ⟨⟨q1, q2, q3⟩, q4, q5, q6, q7⟩ := he
 subst q3 q5 q6 q7
 simp only at h1 h2 h3 h4
 have n1 := map_len q1
 have n2 := map_len q2
 have n3 := map_len q4
 have hcl := ha.shop.cals.len
 have hrl := ha.shop.rows.len
 simp only at hcl hrl
 have S1 := fun W (hW : SinceOf w W) => refSameS_any gA gA' gc gc' bg W (ha.bg.of hW) (hb.bg.of hW) h1
 have S2 := fun W (hW : SinceOf w W) => refSameS_any pA pA' pc pc' pd W (ha.pd.of hW) (hb.pd.of hW) h2
 have H := Lib.hid (And.intro ha hb)
 have HQ := Lib.hid (And.intro q1 (And.intro q2 q4))
 have HN := Lib.hid (And.intro n1 (And.intro n2 n3))
 have HD4 := Lib.hid h4
 show Calls Tryz.prog _ #[.agg #[.slice sA cals.length sc, .slice sB R.length sd, .int .i64 most, .slice A L.length c, .slice gA bg.length gc, .slice pA pd.length pc, .slice dA dr.length dc], .agg #[.slice sA' cals'.length sc', .slice sB' R'.length sd', .int .i64 most, .slice A' L'.length c', .slice gA' bg.length gc', .slice pA' pd.length pc', .slice dA' dr.length dc']] w _
 rw [← n1, ← n2, ← n3]
 clear ha hb q1 q2 q4 n1 n2 n3 h4
 go_enter Tryz.func17, Tryz.ntmps17
 go_wp2_with fail
 go_loopg [5] cals.length (fun gas s5 wr => ∃ k : Nat, k ≤ cals.length ∧ cals.length - k ≤ gas ∧ s5 = .int .i64 k ∧ SinceOf ((w.alloc (.cells #[.slice sA cals.length sc, .slice sB R.length sd, .int .i64 most, .slice A L.length c, .slice gA bg.length gc, .slice pA pd.length pc, .slice dA dr.length dc] 52)).alloc (.cells #[.slice sA' cals.length sc', .slice sB' R.length sd', .int .i64 most, .slice A' L.length c', .slice gA' bg.length gc', .slice pA' pd.length pc', .slice dA' dr.length dc'] 52)) wr)
 case atStart => exact ⟨0, by omega, by omega, rfl, Sx⟩
 case round =>
  obtain ⟨k, hk, hgas, rfl, ⟨z, rfl⟩⟩ := hrel
  by_cases hlt : k < cals.length
  · have hlt' : k < cals'.length := by have := HN.out.1; omega
    have hsw : SinceOf w z.wd := Sx
    have e := map_at HQ.out.1 hlt hlt'
    have C1 := H.out.1.shop.cals.all _ (List.getElem_mem hlt)
    have C2 := H.out.2.shop.cals.all _ (List.getElem_mem hlt')
    obtain ⟨g1, o1, rfl, r1⟩ := (H.out.1.shop.cals.row.of hsw).at_ (by simp only; omega)
    obtain ⟨g2, o2, rfl, r2⟩ := (H.out.2.shop.cals.row.of hsw).at_ (by simp only; omega)
    have hO1 := r1.there
    have hO2 := r2.there
    have a0 := r1.k0 k hlt
    have a1 := r1.k1 k hlt
    have a2 := r1.k2 k hlt
    have b0 := r2.k0 k hlt'
    have b1 := r2.k1 k hlt'
    have b2 := r2.k2 k hlt'
    generalize cals[k] = x at *
    generalize cals'[k] = y at *
    obtain ⟨xP, xA, xc, xS, xB, xd, xD⟩ := x
    obtain ⟨yP, yA, yc, yS, yB, yd, yD⟩ := y
    unfold erC at e
    simp only [CalR.mk.injEq, true_and] at e
    obtain ⟨rfl, rfl, rfl⟩ := e
    simp only at a0 a1 a2 b0 b1 b2 C1 C2
    have EQ := fun W (hW : SinceOf w W) => equal_any (C1.of hW) (C2.of hW) C1.ns
    rw [show (xP == xP && (decide (xS = xS) && decide (xD = xD))) = true from by simp] at EQ
    clear C1 C2 r1 r2
    go_wp2_with fail
    refine region_later (by kernel_rfl) (by kernel_rfl) ?_
    repeat (go_big_quiet_step ((refine Gives.later (EQ _ Sx))))
    refine wpQuiet_nil ?_
    rintro _ ⟨zq, rfl⟩
    go_wp2_with fail
    go_roundg (cals.length - (k + 1))
    case measure => omega
    case rel => exact ⟨k + 1, hlt, Nat.le_refl _, by go_num, Sx⟩
  · go_wp2_with fail
    go_loopg [6] R.length (fun gas s6 wr => ∃ k : Nat, k ≤ R.length ∧ R.length - k ≤ gas ∧ s6 = .int .i64 k ∧ SinceOf ((w.alloc (.cells #[.slice sA cals.length sc, .slice sB R.length sd, .int .i64 most, .slice A L.length c, .slice gA bg.length gc, .slice pA pd.length pc, .slice dA dr.length dc] 52)).alloc (.cells #[.slice sA' cals.length sc', .slice sB' R.length sd', .int .i64 most, .slice A' L.length c', .slice gA' bg.length gc', .slice pA' pd.length pc', .slice dA' dr.length dc'] 52)) wr)
    case atStart => exact ⟨0, by omega, by omega, rfl, Sx⟩
    case round =>
     obtain ⟨k2, hk2, hgas2, rfl, ⟨z2, rfl⟩⟩ := hrel
     by_cases hlt2 : k2 < R.length
     · have hlt' : k2 < R'.length := by have := HN.out.2.1; omega
       have hsw : SinceOf w z2.wd := Sx
       have e := map_at HQ.out.2.1 hlt2 hlt'
       have C1 := H.out.1.shop.rows.all _ (List.getElem_mem hlt2)
       have C2 := H.out.2.shop.rows.all _ (List.getElem_mem hlt')
       obtain ⟨g1, o1, rfl, r1⟩ := (H.out.1.shop.rows.row.of hsw).at_ (by simp only; omega)
       obtain ⟨g2, o2, rfl, r2⟩ := (H.out.2.shop.rows.row.of hsw).at_ (by simp only; omega)
       have hO1 := r1.there
       have hO2 := r2.there
       have a0 := r1.r0 k2 hlt2
       have b0 := r2.r0 k2 hlt'
       generalize R[k2] = x at *
       generalize R'[k2] = y at *
       obtain ⟨xA, xc, xs⟩ := x
       obtain ⟨yA, yc, ys⟩ := y
       unfold erR at e
       simp only [RowR.mk.injEq, true_and] at e
       subst e
       simp only at a0 b0 C1 C2
       have EQ := fun W (hW : SinceOf w W) => refInts54_any xA yA xc yc xs W (C1.1.of hW) (C2.1.of hW) C1.2
       clear C1 C2 r1 r2
       go_wp2_with fail
       refine region_later (by kernel_rfl) (by kernel_rfl) ?_
       repeat (go_big_quiet_step ((refine Gives.later (EQ _ Sx))))
       refine wpQuiet_nil ?_
       rintro _ ⟨zq, rfl⟩
       go_wp2_with fail
       go_roundg (R.length - (k2 + 1))
       case measure => omega
       case rel => exact ⟨k2 + 1, hlt2, Nat.le_refl _, by go_num, Sx⟩
     · go_wp2_with fail
       go_loopg [7] L.length (fun gas s7 wr => ∃ k : Nat, k ≤ L.length ∧ L.length - k ≤ gas ∧ s7 = .int .i64 k ∧ SinceOf ((w.alloc (.cells #[.slice sA cals.length sc, .slice sB R.length sd, .int .i64 most, .slice A L.length c, .slice gA bg.length gc, .slice pA pd.length pc, .slice dA dr.length dc] 52)).alloc (.cells #[.slice sA' cals.length sc', .slice sB' R.length sd', .int .i64 most, .slice A' L.length c', .slice gA' bg.length gc', .slice pA' pd.length pc', .slice dA' dr.length dc'] 52)) wr)
       case atStart => exact ⟨0, by omega, by omega, rfl, Sx⟩
       case round =>
        obtain ⟨k3, hk3, hgas3, rfl, ⟨z3, rfl⟩⟩ := hrel
        by_cases hlt3 : k3 < L.length
        · have hlt' : k3 < L'.length := by have := HN.out.2.2; omega
          have hld : k3 < dr.length := by have := HD4.out; omega
          have hsw : SinceOf w z3.wd := Sx
          have e := map_at HQ.out.2.2 hlt3 hlt'
          have C1 := H.out.1.jobs.all _ (List.getElem_mem hlt3)
          have C2 := H.out.2.jobs.all _ (List.getElem_mem hlt')
          obtain ⟨g1, o1, rfl, r1⟩ := (H.out.1.jobs.row.of hsw).at_ (by simp only; omega)
          obtain ⟨g2, o2, rfl, r2⟩ := (H.out.2.jobs.row.of hsw).at_ (by simp only; omega)
          have hO1 := r1.there
          have hO2 := r2.there
          have a0 := r1.j0 k3 hlt3
          have a1 := r1.j1 k3 hlt3
          have a2 := r1.j2 k3 hlt3
          have a3 := r1.j3 k3 hlt3
          have a4 := r1.j4 k3 hlt3
          have a5 := r1.j5 k3 hlt3
          have b0 := r2.j0 k3 hlt'
          have b1 := r2.j1 k3 hlt'
          have b2 := r2.j2 k3 hlt'
          have b3 := r2.j3 k3 hlt'
          have b4 := r2.j4 k3 hlt'
          have b5 := r2.j5 k3 hlt'
          generalize L[k3] = x at *
          generalize L'[k3] = y at *
          obtain ⟨xA, xc, xs, x1, x2, x3, x4, x5⟩ := x
          obtain ⟨yA, yc, ys, y1, y2, y3, y4, y5⟩ := y
          unfold erJ at e
          simp only [JobR.mk.injEq, true_and] at e
          obtain ⟨rfl, rfl, rfl, rfl, rfl, rfl⟩ := e
          simp only at a0 a1 a2 a3 a4 a5 b0 b1 b2 b3 b4 b5 C1 C2
          have EQ := fun W (hW : SinceOf w W) => refInts54_any xA yA xc yc xs W (C1.1.of hW) (C2.1.of hW) C1.2
          obtain ⟨gd, od, rfl, rd⟩ := (H.out.1.dr.of hsw).at_ (by simp only; omega)
          obtain ⟨ge, oe, rfl, re⟩ := (H.out.2.dr.of hsw).at_ (by simp only; omega)
          have hOd := rd.there
          have hOe := re.there
          have d0 := rd.cells k3 hld 0 (.bool dr[k3]) rfl
          have d1 := re.cells k3 hld 0 (.bool dr[k3]) rfl
          simp only [Nat.mul_one, Nat.add_zero] at d0 d1
          generalize dr[k3] = bv at *
          clear C1 C2 r1 r2 rd re
          go_upto_region 16 with fail
          go_cut [8, 9] (fun s8 s9 wx => ∃ (n1 n2 : Nat), s8 = .pointer (some ⟨n1, 0, none⟩) ∧ s9 = .pointer (some ⟨n2, 0, none⟩) ∧ wx.heap[n1]? = some (Obj.cells #[.slice xA xs.length xc, .int .i64 x1, .int .i64 x2, .int .i64 x3, .int .i64 x4, .int .i64 x5] 87 (0, 0)) ∧ wx.heap[n2]? = some (Obj.cells #[.slice yA xs.length yc, .int .i64 x1, .int .i64 x2, .int .i64 x3, .int .i64 x4, .int .i64 x5] 87 (0, 0)) ∧ SinceOf z3.wd wx)
          case first =>
           go_big_region
           all_goals go_wp2_with fail
           all_goals go_meet
           all_goals
            refine ⟨_, _, rfl, rfl, ?_, ?_, Sx⟩
            all_goals first
             | exact heapAt (alloc_at z3.wd _ _ rfl) Sx
             | exact alloc_at _ _ _ (by simp)
             | exact heapAt (alloc_at _ _ _ (by simp)) (SinceOf.refl _).drew
          case rest =>
           obtain ⟨m1, m2, rfl, rfl, hm1, hm2, ⟨z4, rfl⟩⟩ := hcut
           have u0 := cell_of (i := 0) hm1 rfl
           have u1 := cell_of (i := 1) hm1 rfl
           have u2 := cell_of (i := 2) hm1 rfl
           have u3 := cell_of (i := 3) hm1 rfl
           have u4 := cell_of (i := 4) hm1 rfl
           have u5 := cell_of (i := 5) hm1 rfl
           have v0 := cell_of (i := 0) hm2 rfl
           have v1 := cell_of (i := 1) hm2 rfl
           have v2 := cell_of (i := 2) hm2 rfl
           have v3 := cell_of (i := 3) hm2 rfl
           have v4 := cell_of (i := 4) hm2 rfl
           have v5 := cell_of (i := 5) hm2 rfl
           have hOm1 : Nonempty (Old z4.wd m1) := ⟨⟨heap_lt hm1⟩⟩
           have hOm2 : Nonempty (Old z4.wd m2) := ⟨⟨heap_lt hm2⟩⟩
           have t1 : (bv != bv) = false := by cases bv <;> rfl
           clear a0 a1 a2 a3 a4 a5 b0 b1 b2 b3 b4 b5 hm1 hm2
           go_wp2_with fail
           refine region_later (by kernel_rfl) (by kernel_rfl) ?_
           repeat (go_big_quiet_step ((refine Gives.later (EQ _ Sx))))
           refine wpQuiet_nil ?_
           rintro _ ⟨zq, rfl⟩
           go_wp2_with fail
           go_roundg (L.length - (k3 + 1))
           case measure => omega
           case rel => exact ⟨k3 + 1, hlt3, Nat.le_refl _, by go_num, Sx⟩
        · go_wp2_with fail
          refine (S1 _ Sx).calls.mono ?_
          rintro e _ ⟨rfl, y1, rfl⟩
          go_wp2_with fail
          refine (S2 _ Sx).calls.mono ?_
          rintro e _ ⟨rfl, y2, rfl⟩
          go_wp2_with fail
          go_returns
          exact ⟨rfl, Sx⟩
end Go.Proofs.YtpaojgfmffkodaaGreat
