/- Layer 54: ReplanLeast's walk. -/
import Derived.Test.YtpaojgfmffkodaaGreatLRep50
import Derived.Test.YtpaojgfmffkodaaGreatLRep42
import Derived.Test.YtpaojgfmffkodaaGreatLRep43
import Derived.Test.YtpaojgfmffkodaaGreatLRep44
import Derived.Test.YtpaojgfmffkodaaGreatLRep31
namespace Go.Proofs.YtpaojgfmffkodaaGreat
set_option linter.unusedVariables false
set_option linter.unusedSimpArgs false
open Go.RowKit Go.Sort
attribute [local go_sem ↓] Go.wp_at_zero Go.wp_at_succ
set_option maxRecDepth 100000 in
set_option maxHeartbeats 16000000 in
theorem least_walk (aw : ∀ w : World, Yields Tryz.prog 9 #[] w (.bool true)) (x : CaseR) (K : Option Addr) (kc : Nat) (kept : List Int) (w : World) (hx : IsCase w x) (hK : IsInts w K kc kept) (hkl : kept.length < 4611686018427387904) :
    Yields Tryz.prog 5 #[caseV x, .slice K kept.length kc] w (.bool true) := by
  apply Yields.ret
  have AP := fun W (hW : SinceOf w W) => apply54_any x W (hx.of hW)
  have LE := fun y (h : CaseSt x y) => h.lens
  have OK := fun y (h : CaseSt x y) => h.ok
  have CL : ∀ y, CaseSt x y → y.s.cals.length ≤ 6 := fun y h => by
    have h1 := (check_lens h.ok.check).cals
    have e : (erSt y).s.cals.length = y.s.cals.length := by unfold erSt erS; simp
    omega
  generalize CaseSt x = cs at *
  obtain ⟨⟨sA, sc, cals, sB, sd, R, most⟩, A, c, L, B, d, plan, now, E, ec, evs⟩ := x
  simp only at AP LE OK
  have HK := Lib.hid hK
  clear hx hK
  go_enter Tryz.func5, Tryz.ntmps5
  go_wp2_with fail
  refine (aw _).calls.mono ?_
  rintro e _ ⟨rfl, x1, rfl⟩
  go_wp2_with fail
  refine (AP _ Sx).mono ?_
  rintro e _ ⟨b, y, rfl, hst, hb, ⟨x2, rfl⟩⟩
  clear AP aw
  cases b
  · clear hb hst
    obtain ⟨⟨ysA, ysc, ycals, ysB, ysd, yR, ymost⟩, yA, yc, yL, ygA, ygc, ybg, ypA, ypc, ypd, ydA, ydc, ydr⟩ := y
    go_wp2_with fail
    go_returns
    exact ⟨rfl, Sx⟩
  have hcs := hb rfl
  obtain ⟨l1, l2, l3, l4, l5, l6⟩ := LE y hcs
  have hok := OK y hcs
  by_cases hk8 : 8 < kept.length
  · have hk8i : 8 < (kept.length : Int) := by omega
    clear hb hst LE OK CL hcs hok l6
    obtain ⟨⟨ysA, ysc, ycals, ysB, ysd, yR, ymost⟩, yA, yc, yL, ygA, ygc, ybg, ypA, ypc, ypd, ydA, ydc, ydr⟩ := y
    go_wp2_with fail
    go_returns
    exact ⟨rfl, Sx⟩
  have hk8i : ¬ 8 < (kept.length : Int) := by omega
  by_cases hp4 : 4 < y.pd.length
  · have hp4i : 4 < (y.pd.length : Int) := by omega
    clear hb hst LE OK CL hcs hok l6
    obtain ⟨⟨ysA, ysc, ycals, ysB, ysd, yR, ymost⟩, yA, yc, yL, ygA, ygc, ybg, ypA, ypc, ypd, ydA, ydc, ydr⟩ := y
    simp only at hp4i
    go_wp2_with fail
    go_returns
    exact ⟨rfl, Sx⟩
  have hp4i : ¬ 4 < (y.pd.length : Int) := by omega
  have hjb := hok.jobs
  have TH := fun W (hW : SinceOf x2.wd W) => theirs54_any y W (hst.of hW) (by omega) (by omega) (by have := CL y hcs; omega) (by omega)
  have KE := fun W (hW : SinceOf x2.wd W) => keep_any y K kc kept W (hst.of hW) (HK.out.of ((show SinceOf w x2.wd from Sx).trans hW)) (by omega) l6 (by omega) (by omega) (by omega)
  have RE := fun W (hW : SinceOf x2.wd W) => replan_any y W (hst.of hW) l6 (by omega) (by omega) (by omega)
  have LS := fun W (hW : SinceOf x2.wd W) => least_any y W (hst.of hW) l6 (by omega) (by omega) (by omega)
  have L1 := keep_lens y (kept := kept) (by omega)
  have L2 := replan_lens y
  have L3 := least_lens y
  have hpe : (erSt y).pd.length ≤ 8 := by
    have e : (erSt y).pd.length = y.pd.length := rfl
    omega
  have r0 := replan_ok hok
  obtain ⟨s0, s1⟩ := least_le hpe (kept := (chosenTo (erSt y) (erSt y).pd.length).2) r0
  have s2 := fun h => (least_le hpe (kept := kept) h).2
  have RR := fun (y' : StR) W (h1 : IsState W y') (h2 : erSt y' = erSt y) => refLeast54_any y' W h1 (by have := er_lens h2; rw [this.2.2.2, this.1]; exact l6) (by have := er_lens h2; omega) (by have := er_lens h2; rw [this.2.1]; omega) (by have := er_lens h2; rw [this.2.2.1]; omega) (by have := er_lens h2; rw [this.2.1, this.2.2.1]; exact hjb)
  have RR2 : ∀ (y' : StR) W, IsState W y' → erSt y' = erSt y → Calls Tryz.prog 27 #[stateV y'] W fun e w' => ∃ r : ResM, e = .returned (.tuple #[resV r, .int .i64 (leastV (erSt y)).1]) ∧ r.r = (leastV (erSt y)).2 ∧ IsRes w' r ∧ SinceOf W w' := fun y' W h1 h2 => by
    have h := RR y' W h1 h2
    rw [h2] at h
    exact h
  rw [s0] at LS RR2
  rw [r0] at RE
  have s3 : LeR (leastV (erSt y)).2 (replanV (erSt y)).2 := s1
  obtain ⟨kv, hkv⟩ : ∃ v, v = keepV (erSt y) kept := ⟨_, rfl⟩
  obtain ⟨rr, hrr⟩ : ∃ v, v = (replanV (erSt y)).2 := ⟨_, rfl⟩
  obtain ⟨lr, hlr⟩ : ∃ v, v = (leastV (erSt y)).2 := ⟨_, rfl⟩
  simp only [← hkv] at KE L1 s2
  simp only [← hrr] at RE L2 s3
  simp only [← hlr] at LS L3 RR2 s2 s3
  have b1 := L1.slots
  have b2 := L1.moved
  have b3 := L1.left
  have b4 := L2.slots
  have b5 := L2.moved
  have b6 := L2.left
  have b7 := L3.slots
  have b8 := L3.moved
  have b9 := L3.left
  have HC := Lib.hid RR2
  obtain ⟨kq, kr⟩ := kv
  have HS := Lib.hid (And.intro s3 s2)
  clear hb hst LE OK CL hcs hok hjb RR RR2 L1 L2 L3 hkv hrr hlr l6 s0 s1 s2 s3 r0 hpe
  obtain ⟨y0, hy0⟩ : ∃ y0, y0 = y := ⟨_, rfl⟩
  rw [← hy0] at HC TH
  obtain ⟨⟨ysA, ysc, ycals, ysB, ysd, yR, ymost⟩, yA, yc, yL, ygA, ygc, ybg, ypA, ypc, ypd, ydA, ydc, ydr⟩ := y
  simp only at KE RE LS b1 b2 b3 b4 b5 b6 b7 b8 b9 l3 l4 l5 hp4i
  rw [hy0] at TH
  have HY0 := Lib.hid hy0
  clear hy0
  go_wp2_with fail
  refine (LS _ Sx).mono ?_
  rintro e _ ⟨⟨⟨t1, m1, f1⟩, a1, c1, a2, c2, a3, c3⟩, rfl, hr1, hi1, ⟨x3, rfl⟩⟩
  have hx3 := x3.size
  (try simp at hx3)
  clear LS
  go_wp2_with fail
  refine (TH _ Sx).mono ?_
  rintro e _ ⟨t, rfl, ht, hti, ⟨x4, rfl⟩⟩
  rw [← HY0.out] at ht
  have hx4 := x4.size
  (try simp at hx4)
  have RR := fun W (hW : SinceOf x4.wd W) => HC.out t W (hti.of hW) ht
  clear TH HC hti ht HY0
  obtain ⟨⟨tsA, tsc, tcals, tsB, tsd, tR, tmost⟩, tA, tc, tL, tgA, tgc, tbg, tpA, tpc, tpd, tdA, tdc, tdr⟩ := t
  go_wp2_with fail
  refine (RR _ Sx).mono ?_
  rintro e _ ⟨⟨⟨t2, m2, f2⟩, d1, e1, d2, e2, d3, e3⟩, rfl, hr2, hi2, ⟨x5, rfl⟩⟩
  have hx5 := x5.size
  (try simp at hx5)
  clear RR
  simp only at hr1 hr2
  subst hr1
  simp only at b7 b8 b9
  injection hr2.symm with k1 k2 k3
  subst k1 k2 k3
  have RS1 := fun W (hW : SinceOf x3.wd W) => result54_any _ W (hi1.of hW) (by simp only; omega)
  simp only [resV] at RS1
  have N1 := refSameR_at ⟨t1, m1, f1⟩ d1 e1 d2 e2 d3 e3 hi2.slots hi2.moved hi2.left hi2.cap ⟨by show t1.length < _; omega, by show m1.length < _; omega, by show f1.length < _; omega⟩
  simp only at N1
  clear hi1 hi2
  go_upto_region 8 with fail
  go_region_held3 (fun w' => w'.cell? ⟨x3.wd.heap.size, 0, none⟩ = some (.slice a1 t1.length c1) ∧ w'.cell? ⟨x3.wd.heap.size, 1, none⟩ = some (.slice a2 m1.length c2) ∧ w'.cell? ⟨x3.wd.heap.size, 2, none⟩ = some (.slice a3 f1.length c3) ∧ w'.cell? ⟨x5.wd.heap.size, 0, none⟩ = some (.slice d1 t1.length e1) ∧ w'.cell? ⟨x5.wd.heap.size, 1, none⟩ = some (.slice d2 m1.length e2) ∧ w'.cell? ⟨x5.wd.heap.size, 2, none⟩ = some (.slice d3 f1.length e3)) ((simp [go_sem, *]))
    (first
      | (go_at_call 25; (with_reducible refine (RS1 _ Sx).mono ?_); rintro e _ ⟨⟨⟨t3, u1, v1⟩, A1, B1, A2, B2, A3, B3⟩, rfl, hp1, hpi1, ⟨x8, rfl⟩⟩; have hx8 := x8.size; (try simp at hx8); simp only at hp1; injection hp1.symm with k1 k2 k3; subst k1 k2 k3; have HP1 := Lib.hid hpi1; clear hpi1)
      | (go_at_call 24; (with_reducible refine (N1 ⟨⟨_, _, _⟩, A1, B1, A2, B2, A3, B3⟩ _ Sx (HP1.out.of Sx) rfl).calls.mono ?_); rintro e _ ⟨rfl, x9, rfl⟩))
  all_goals
    clear RS1 N1
    go_wp2_with fail
    refine (RE _ Sx).mono ?_
    rintro e _ ⟨⟨⟨t4, m4, f4⟩, g1, h1, g2, h2, g3, h3⟩, rfl, hr4, hi4, ⟨x10, rfl⟩⟩
    have hx10 := x10.size
    (try simp at hx10)
    clear RE
    simp only at hr4
    subst hr4
    go_wp2_with fail
    refine (KE _ Sx).mono ?_
    rintro e _ ⟨⟨⟨t5, m5, f5⟩, p1, q1, p2, q2, p3, q3⟩, rfl, hr5, hi5, -, ⟨x11, rfl⟩⟩
    have hx11 := x11.size
    (try simp at hx11)
    clear KE
    simp only at hr5
    subst hr5
    clear hi4 hi5
    have hs1 := HS.out.1
    have hs2 := HS.out.2
    unfold LeR at hs1 hs2
    simp only at hs1 hs2
    rcases (show (¬ (f4.length : Int) < (f1.length : Int) ∧ ((f1.length : Int) == (f4.length : Int)) = false) ∨ (¬ (f4.length : Int) < (f1.length : Int) ∧ ((f1.length : Int) == (f4.length : Int)) = true ∧ ¬ (m4.length : Int) < (m1.length : Int)) by
      rcases hs1 with h | ⟨h1, h2⟩
      · exact .inl ⟨by omega, by simp; omega⟩
      · exact .inr ⟨by omega, by simp; omega, by omega⟩) with ⟨i1, i2⟩ | ⟨i1, i2, i3⟩
    all_goals
      by_cases hq : kq = 0
      · have hs3 := hs2 hq
        subst hq
        rcases (show (f1.length : Int) < (f5.length : Int) ∨ (¬ (f1.length : Int) < (f5.length : Int) ∧ ((f1.length : Int) == (f5.length : Int)) = true ∧ (m1.length : Int) ≤ (m5.length : Int)) by
          rcases hs3 with h | ⟨h1, h2⟩
          · exact .inl (by omega)
          · exact .inr ⟨by omega, by simp; omega, by omega⟩) with j1 | ⟨j1, j2, j3⟩
        all_goals
          clear hs1 hs2 hs3
          go_wp2_with fail
          go_returns
          exact ⟨rfl, Sx⟩
      · have hq2 : (kq != 0) = true := by simpa using hq
        clear hs1 hs2 hq
        go_wp2_with fail
        go_returns
        exact ⟨rfl, Sx⟩
end Go.Proofs.YtpaojgfmffkodaaGreat
