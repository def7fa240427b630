/- Layer 54: ReplanKeep's walk. -/
import Derived.Test.YtpaojgfmffkodaaGreatKRep50
import Derived.Test.YtpaojgfmffkodaaGreatKRep41
import Derived.Test.YtpaojgfmffkodaaGreatKRep43
import Derived.Test.YtpaojgfmffkodaaGreatKRep44
import Derived.Test.YtpaojgfmffkodaaGreatKRep31
namespace Go.Proofs.YtpaojgfmffkodaaGreat
set_option linter.unusedVariables false
set_option linter.unusedSimpArgs false
open Go.RowKit Go.Sort
attribute [local go_sem ↓] Go.wp_at_zero Go.wp_at_succ
set_option maxRecDepth 100000 in
set_option maxHeartbeats 16000000 in
theorem keep_walk (aw : ∀ w : World, Yields Tryz.prog 9 #[] w (.bool true)) (x : CaseR) (K : Option Addr) (kc : Nat) (kept : List Int) (w : World) (hx : IsCase w x) (hK : IsInts w K kc kept) (hkl : kept.length < 4611686018427387904) :
    Yields Tryz.prog 4 #[caseV x, .slice K kept.length kc] w (.bool true) := by
  apply Yields.ret
  have AP := fun W (hW : SinceOf w W) => apply54_any x W (hx.of hW)
  have LE := fun y (h : CaseSt x y) => h.lens
  have OK := fun y (h : CaseSt x y) => h.ok.jobs
  have CL : ∀ y, CaseSt x y → y.s.cals.length ≤ 6 := fun y h => by
    have h1 := (check_lens h.ok.check).cals
    have e : (erSt y).s.cals.length = y.s.cals.length := by unfold erSt erS; simp
    omega
  generalize CaseSt x = cs at *
  obtain ⟨⟨sA, sc, cals, sB, sd, R, most⟩, A, c, L, B, d, plan, now, E, ec, evs⟩ := x
  simp only at AP LE
  have HK := Lib.hid hK
  clear hx hK
  go_enter Tryz.func4, Tryz.ntmps4
  go_wp2_with fail
  refine (aw _).calls.mono ?_
  rintro e _ ⟨rfl, x1, rfl⟩
  go_wp2_with fail
  refine (AP _ Sx).mono ?_
  rintro e _ ⟨b, y, rfl, hst, hb, ⟨x2, rfl⟩⟩
  clear AP aw
  cases b
  · clear hb hst
    obtain ⟨⟨ysA, ysc, ycals, ysB, ysd, yR, ymost⟩, yA, yc, yL, ygA, ygc, ybg, ypA, ypc, ypd, ydA, ydc, ydr⟩ := y
    go_wp2_with fail
    go_returns
    exact ⟨rfl, Sx⟩
  have hcs := hb rfl
  obtain ⟨l1, l2, l3, l4, l5, l6⟩ := LE y hcs
  have hjb := OK y hcs
  by_cases hk8 : 8 < kept.length
  · have hk8i : 8 < (kept.length : Int) := by omega
    clear hb hst LE OK CL hcs hjb
    obtain ⟨⟨ysA, ysc, ycals, ysB, ysd, yR, ymost⟩, yA, yc, yL, ygA, ygc, ybg, ypA, ypc, ypd, ydA, ydc, ydr⟩ := y
    go_wp2_with fail
    go_returns
    exact ⟨rfl, Sx⟩
  have hk8i : ¬ 8 < (kept.length : Int) := by omega
  have y2 := x2.size
  (try simp at y2)
  have TH := fun W (hW : SinceOf x2.wd W) => theirs54_any y W (hst.of hW) (by omega) (by omega) (by have := CL y hcs; omega) (by omega)
  have KE := fun W (hW : SinceOf x2.wd W) => keep_any y K kc kept W (hst.of hW) (HK.out.of ((show SinceOf w x2.wd from Sx).trans hW)) (by omega) l6 (by omega) (by omega) (by omega)
  have RE := fun W (hW : SinceOf x2.wd W) => replan_any y W (hst.of hW) l6 (by omega) (by omega) (by omega)
  have L1 := keep_lens y (kept := kept) (by omega)
  have L2 := replan_lens y
  have RK := fun (y' : StR) W (hW : SinceOf x2.wd W) (h1 : IsState W y') (h2 : erSt y' = erSt y) => refKeep54_any y' K kc kept W h1 (HK.out.of ((show SinceOf w x2.wd from Sx).trans hW)) (by omega) (by have := er_lens h2; rw [this.2.2.2, this.1]; exact l6) (by have := er_lens h2; omega) (by have := er_lens h2; rw [this.2.1]; omega) (by have := er_lens h2; rw [this.2.2.1]; omega) (by have := er_lens h2; rw [this.2.1, this.2.2.1]; exact hjb)
  have RR := fun (y' : StR) W (h1 : IsState W y') (h2 : erSt y' = erSt y) => refReplan54_any y' W h1 (by have := er_lens h2; rw [this.2.2.2, this.1]; exact l6) (by have := er_lens h2; omega) (by have := er_lens h2; rw [this.2.1]; omega) (by have := er_lens h2; rw [this.2.2.1]; omega) (by have := er_lens h2; rw [this.2.1, this.2.2.1]; exact hjb)
  have RK2 : ∀ (y' : StR) W, SinceOf x2.wd W → IsState W y' → erSt y' = erSt y → Calls Tryz.prog 21 #[stateV y', .slice K kept.length kc] W fun e w' => ∃ r : ResM, e = .returned (.tuple #[resV r, .int .i64 (keepV (erSt y) kept).1]) ∧ r.r = (keepV (erSt y) kept).2 ∧ IsRes w' r ∧ FreshR W.heap.size r ∧ SinceOf W w' := fun y' W hW h1 h2 => by
    have h := RK y' W hW h1 h2
    rw [h2] at h
    exact h
  have RR2 : ∀ (y' : StR) W, IsState W y' → erSt y' = erSt y → Calls Tryz.prog 23 #[stateV y'] W fun e w' => ∃ r : ResM, e = .returned (.tuple #[resV r, .int .i64 (replanV (erSt y)).1]) ∧ r.r = (replanV (erSt y)).2 ∧ IsRes w' r ∧ SinceOf W w' := fun y' W h1 h2 => by
    have h := RR y' W h1 h2
    rw [h2] at h
    exact h
  obtain ⟨kv, hkv⟩ : ∃ v, v = keepV (erSt y) kept := ⟨_, rfl⟩
  obtain ⟨rv, hrv⟩ : ∃ v, v = replanV (erSt y) := ⟨_, rfl⟩
  simp only [← hkv, ← hrv] at KE RE RK2 RR2 L1 L2
  have b1 := L1.slots
  have b2 := L1.moved
  have b3 := L1.left
  have b4 := L2.slots
  have b5 := L2.moved
  have b6 := L2.left
  have HC := Lib.hid (And.intro RK2 RR2)
  clear hb hst LE OK CL hcs hjb RK RR RK2 RR2 L1 L2 hkv hrv l6
  obtain ⟨kq, kr⟩ := kv
  obtain ⟨rq, rr⟩ := rv
  obtain ⟨y0, hy0⟩ : ∃ y0, y0 = y := ⟨_, rfl⟩
  rw [← hy0] at HC TH
  obtain ⟨⟨ysA, ysc, ycals, ysB, ysd, yR, ymost⟩, yA, yc, yL, ygA, ygc, ybg, ypA, ypc, ypd, ydA, ydc, ydr⟩ := y
  simp only at KE RE b1 b2 b3 b4 b5 b6 l3 l4 l5
  rw [hy0] at TH
  have HY0 := Lib.hid hy0
  clear hy0
  go_wp2_with fail
  refine (TH _ Sx).mono ?_
  rintro e _ ⟨t, rfl, ht, hti, ⟨x3, rfl⟩⟩
  rw [← HY0.out] at ht
  have hx3 := x3.size
  (try simp at hx3)
  have RK := fun W (hW : SinceOf x3.wd W) => HC.out.1 t W ((show SinceOf x2.wd x3.wd from Sx).trans hW) (hti.of hW) ht
  have RR := fun W (hW : SinceOf x3.wd W) => HC.out.2 t W (hti.of hW) ht
  clear TH HC hti ht HY0
  obtain ⟨⟨tsA, tsc, tcals, tsB, tsd, tR, tmost⟩, tA, tc, tL, tgA, tgc, tbg, tpA, tpc, tpd, tdA, tdc, tdr⟩ := t
  go_wp2_with fail
  refine (KE _ Sx).mono ?_
  rintro e _ ⟨⟨⟨s1, m1, f1⟩, a1, c1, a2, c2, a3, c3⟩, rfl, hr1, hi1, -, ⟨x4, rfl⟩⟩
  have hx4 := x4.size
  (try simp at hx4)
  clear KE
  go_wp2_with fail
  refine (RK _ Sx).mono ?_
  rintro e _ ⟨⟨⟨s2, m2, f2⟩, d1, e1, d2, e2, d3, e3⟩, rfl, hr2, hi2, -, ⟨x5, rfl⟩⟩
  have hx5 := x5.size
  (try simp at hx5)
  clear RK
  go_wp2_with fail
  refine (RE _ Sx).mono ?_
  rintro e _ ⟨⟨⟨s3, m3, f3⟩, g1, h1, g2, h2, g3, h3⟩, rfl, hr3, hi3, ⟨x6, rfl⟩⟩
  have hx6 := x6.size
  (try simp at hx6)
  clear RE
  go_wp2_with fail
  refine (RR _ Sx).mono ?_
  rintro e _ ⟨⟨⟨s4, m4, f4⟩, p1, q1, p2, q2, p3, q3⟩, rfl, hr4, hi4, ⟨x7, rfl⟩⟩
  have hx7 := x7.size
  (try simp at hx7)
  clear RR
  simp only at hr1 hr2 hr3 hr4
  subst hr1
  subst hr3
  simp only at b1 b2 b3 b4 b5 b6
  injection hr2.symm with k1 k2 k3
  subst k1 k2 k3
  injection hr4.symm with k1 k2 k3
  subst k1 k2 k3
  have RS1 := fun W (hW : SinceOf x4.wd W) => result54_any _ W (hi1.of hW) (by simp only; omega)
  have RS3 := fun W (hW : SinceOf x6.wd W) => result54_any _ W (hi3.of hW) (by simp only; omega)
  simp only [resV] at RS1 RS3
  have HI := Lib.hid (And.intro hi2 hi4)
  clear hi1 hi2 hi3 hi4
  have N1 := refSameR_at ⟨s1, m1, f1⟩ d1 e1 d2 e2 d3 e3 HI.out.1.slots HI.out.1.moved HI.out.1.left HI.out.1.cap ⟨by show s1.length < _; omega, by show m1.length < _; omega, by show f1.length < _; omega⟩
  have N3 := refSameR_at ⟨s3, m3, f3⟩ p1 q1 p2 q2 p3 q3 HI.out.2.slots HI.out.2.moved HI.out.2.left HI.out.2.cap ⟨by show s3.length < _; omega, by show m3.length < _; omega, by show f3.length < _; omega⟩
  simp only at N1 N3
  go_upto_region 11 with fail
  go_region_held3 (fun w' => w'.cell? ⟨x4.wd.heap.size, 0, none⟩ = some (.slice a1 s1.length c1) ∧ w'.cell? ⟨x4.wd.heap.size, 1, none⟩ = some (.slice a2 m1.length c2) ∧ w'.cell? ⟨x4.wd.heap.size, 2, none⟩ = some (.slice a3 f1.length c3) ∧ w'.cell? ⟨x5.wd.heap.size, 0, none⟩ = some (.slice d1 s1.length e1) ∧ w'.cell? ⟨x5.wd.heap.size, 1, none⟩ = some (.slice d2 m1.length e2) ∧ w'.cell? ⟨x5.wd.heap.size, 2, none⟩ = some (.slice d3 f1.length e3) ∧ w'.cell? ⟨x6.wd.heap.size, 0, none⟩ = some (.slice g1 s3.length h1) ∧ w'.cell? ⟨x6.wd.heap.size, 1, none⟩ = some (.slice g2 m3.length h2) ∧ w'.cell? ⟨x6.wd.heap.size, 2, none⟩ = some (.slice g3 f3.length h3) ∧ w'.cell? ⟨x7.wd.heap.size, 0, none⟩ = some (.slice p1 s3.length q1) ∧ w'.cell? ⟨x7.wd.heap.size, 1, none⟩ = some (.slice p2 m3.length q2) ∧ w'.cell? ⟨x7.wd.heap.size, 2, none⟩ = some (.slice p3 f3.length q3)) ((simp [go_sem, *]))
    (first
      | (go_at_call 25; (with_reducible refine (RS1 _ Sx).mono ?_); rintro e _ ⟨⟨⟨t1, u1, v1⟩, A1, B1, A2, B2, A3, B3⟩, rfl, hp1, hpi1, ⟨x8, rfl⟩⟩; have hx8 := x8.size; (try simp at hx8); simp only at hp1; injection hp1.symm with k1 k2 k3; subst k1 k2 k3; have HP1 := Lib.hid hpi1; clear hpi1)
      | (go_at_call 24; (with_reducible refine (N1 ⟨⟨_, _, _⟩, A1, B1, A2, B2, A3, B3⟩ _ Sx (HP1.out.of Sx) rfl).calls.mono ?_); rintro e _ ⟨rfl, x9, rfl⟩)
      | (go_at_call 25; (with_reducible refine (RS3 _ Sx).mono ?_); rintro e _ ⟨⟨⟨t3, u3, v3⟩, C1, D1, C2, D2, C3, D3⟩, rfl, hp3, hpi3, ⟨x10, rfl⟩⟩; have hx10 := x10.size; (try simp at hx10); simp only at hp3; injection hp3.symm with k1 k2 k3; subst k1 k2 k3; have HP3 := Lib.hid hpi3; clear hpi3)
      | (go_at_call 24; (with_reducible refine (N3 ⟨⟨_, _, _⟩, C1, D1, C2, D2, C3, D3⟩ _ Sx (HP3.out.of Sx) rfl).calls.mono ?_); rintro e _ ⟨rfl, x11, rfl⟩))
  all_goals
    go_wp2_with fail
    go_returns
    exact ⟨rfl, Sx⟩
end Go.Proofs.YtpaojgfmffkodaaGreat
