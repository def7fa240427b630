/- Layer 54: ReplanApply's walk. -/
import Derived.Test.YtpaojgfmffkodaaGreatARep50
import Derived.Test.YtpaojgfmffkodaaGreatARep40
import Derived.Test.YtpaojgfmffkodaaGreatARep43
import Derived.Test.YtpaojgfmffkodaaGreatARep31
namespace Go.Proofs.YtpaojgfmffkodaaGreat
set_option linter.unusedVariables false
set_option linter.unusedSimpArgs false
open Go.RowKit Go.Sort
attribute [local go_sem ↓] Go.wp_at_zero Go.wp_at_succ
structure LensA (x : StP) : Prop where
 L : x.L.length ≤ 1000000
 bg : x.bg.length ≤ 1000000
 pd : x.pd.length ≤ 1000000
 dr : x.dr.length = x.L.length
 cals : x.s.cals.length ≤ 6
theorem noSt_lens : LensA noSt := ⟨Nat.zero_le _, Nat.zero_le _, Nat.zero_le _, rfl, Nat.zero_le _⟩
theorem lastV_err {x : StP} {now : Int} (h : (lastV x now).1 ≠ 0) : (lastV x now).2 = noSt := by
 unfold lastV at h ⊢
 split
 · rename_i b hb
   rw [hb] at h
   exact absurd rfl h
 · rfl
theorem applyV_err {s : ShopR} {L : List JobR} {plan : List SlotR} {now : Int} {evs : List EvR} (h : (applyV s L plan now evs).1 ≠ 0) : (applyV s L plan now evs).2 = noSt := by
 unfold applyV at h ⊢
 split
 · rename_i h1
   rw [if_pos h1] at h
   split
   · rfl
   · rename_i h2
     rw [if_neg h2] at h
     split
     · rfl
     · rename_i h3
       rw [if_neg h3] at h
       split
       · rename_i h4
         rw [if_pos h4] at h
         exact lastV_err h
       · rfl
 · rfl
theorem applyV_lens {s : ShopR} {L : List JobR} {plan : List SlotR} {now : Int} {evs : List EvR} (hL : L.length ≤ 100) (hp : plan.length ≤ 100) (he : evs.length ≤ 100) : LensA (applyV s L plan now evs).2 := by
 by_cases h : (applyV s L plan now evs).1 = 0
 · obtain ⟨x1, b, ha⟩ := apply_ok h
   obtain ⟨l1, l2, l3, l4⟩ := ha.lens
   exact ⟨by omega, by omega, by omega, l4, (check_lens (applied_ok ha).check).cals⟩
 · rw [applyV_err h]
   exact noSt_lens
theorem er_lensA {y : StR} {v : StP} (h : erSt y = v) (hl : LensA v) : y.L.length ≤ 1000000 ∧ y.bg.length ≤ 1000000 ∧ y.pd.length ≤ 1000000 ∧ y.dr.length = y.L.length ∧ y.s.cals.length ≤ 6 := by
 subst h
 have e1 : (erSt y).L.length = y.L.length := erL_length y.L
 have e2 : (erSt y).bg.length = y.bg.length := rfl
 have e3 : (erSt y).pd.length = y.pd.length := rfl
 have e4 : (erSt y).dr.length = y.dr.length := rfl
 have e5 : (erSt y).s.cals.length = y.s.cals.length := by unfold erSt erS; simp
 have h1 := hl.L
 have h2 := hl.bg
 have h3 := hl.pd
 have h4 := hl.dr
 have h5 := hl.cals
 exact ⟨by omega, by omega, by omega, by omega, by omega⟩
set_option maxRecDepth 100000 in
set_option maxHeartbeats 16000000 in
theorem apply_walk (aw : ∀ w : World, Yields Tryz.prog 9 #[] w (.bool true)) (x : CaseR) (w : World) (hx : IsCase w x) :
 Yields Tryz.prog 3 #[caseV x] w (.bool true) := by
 apply Yields.ret
 have SM := fun W (hW : SinceOf w W) => smallCase_any x W (hx.of hW)
 have AP := fun cA cc jA jc sA sc eA ec W => applyC_any x.s x.L x.plan x.now x.evs cA cc jA jc sA sc eA ec w W hx.shop hx.jobs
 have FL : smallK x.s x.L x.plan x.now x.evs.length = true → (x.s.cals.length ≤ 3 ∧ x.L.length ≤ 8) ∧ x.plan.length ≤ 8 ∧ x.evs.length ≤ 25 := fun h => by
  have h1 := few_lens54 (small_few h).1
  have h2 := (small_few h).2
  omega
 obtain ⟨k, hk⟩ : ∃ k, k = smallK x.s x.L x.plan x.now x.evs.length := ⟨_, rfl⟩
 rw [← hk] at SM FL
 clear hk
 obtain ⟨⟨sA, sc, cals, sB, sd, R, most⟩, A, c, L, B, d, plan, now, E, ec, evs⟩ := x
 simp only at SM AP FL
 have H := Lib.hid hx
 cases k
 · clear AP FL hx
   go_enter Tryz.func3, Tryz.ntmps3
   go_wp2_with fail
   refine (aw _).calls.mono ?_
   rintro e _ ⟨rfl, x1, rfl⟩
   go_wp2_with fail
   refine (SM _ Sx).calls.mono ?_
   rintro e _ ⟨rfl, z1, rfl⟩
   go_wp2_with fail
   go_returns
   exact ⟨rfl, Sx⟩
 · obtain ⟨⟨f1, f2⟩, e1, e2⟩ := FL rfl
   have RA := fun W (hW : SinceOf w W) => refApply54_any ⟨sA, sc, cals, sB, sd, R, most⟩ A c L B d plan now E ec evs W (hx.shop.of hW) (hx.jobs.of hW) (hx.plan.of hW) (hx.evs.of hW) (by omega) hx.cap (by omega)
   have LA := applyV_lens (s := ⟨sA, sc, cals, sB, sd, R, most⟩) (L := L) (plan := plan) (now := now) (evs := evs) (by omega) (by omega) (by omega)
   obtain ⟨va, hva⟩ : ∃ v, v = applyV ⟨sA, sc, cals, sB, sd, R, most⟩ L plan now evs := ⟨_, rfl⟩
   simp only [← hva] at AP RA LA
   clear hva FL hx
   obtain ⟨q, v⟩ := va
   simp only at AP RA LA
   have HC := Lib.hid RA
   have HLA := Lib.hid LA
   clear RA LA
   go_enter Tryz.func3, Tryz.ntmps3
   go_wp2_with fail
   refine (aw _).calls.mono ?_
   rintro e _ ⟨rfl, x1, rfl⟩
   go_wp2_with fail
   refine (SM _ Sx).calls.mono ?_
   rintro e _ ⟨rfl, z1, rfl⟩
   clear SM aw
   have hz1 := z1.size
   (try simp at hz1)
   go_upto_region 5 with fail
   go_cut [3, 4] (fun s4 s5 wx => ∃ (o : Nat) (y : StR), s4 = .pointer (some ⟨o, 0, none⟩) ∧ s5 = .int .i64 q ∧ wx.heap[o]? = some (Obj.cells #[.slice y.s.A y.s.cals.length y.s.c, .slice y.s.B y.s.rows.length y.s.d, .int .i64 y.s.most, .slice y.A y.L.length y.c, .slice y.gA y.bg.length y.gc, .slice y.pA y.pd.length y.pc, .slice y.dA y.dr.length y.dc] 42 (0, 0)) ∧ StFrom z1.wd.heap.size wx y ∧ erSt y = v ∧ SinceOf z1.wd wx)
   case first =>
    go_region_held3 (fun w' => w'.cell? ⟨w.heap.size, 0, none⟩ = some (.slice sA cals.length sc) ∧ w'.cell? ⟨w.heap.size, 1, none⟩ = some (.slice sB R.length sd) ∧ w'.cell? ⟨w.heap.size, 2, none⟩ = some (.int .i64 most) ∧ w'.cell? ⟨w.heap.size, 3, none⟩ = some (.slice A L.length c) ∧ w'.cell? ⟨w.heap.size, 4, none⟩ = some (.slice B plan.length d) ∧ w'.cell? ⟨w.heap.size, 5, none⟩ = some (.int .i64 now) ∧ w'.cell? ⟨w.heap.size, 6, none⟩ = some (.slice E evs.length ec)) ((simp [go_sem, *]))
     (first
       | (go_at_call 12; refine (own52b_any ⟨sA, sc, cals, sB, sd, R, most⟩ _ (H.out.shop.of Sx) (by simp only; omega)).mono ?_; rintro e _ ⟨cA, cc, rfl, hrc, hbc, ⟨y1, rfl⟩⟩; have hy1 := y1.size; (try simp at hy1))
       | (go_at_call 13; refine (jobs_any A c L _ (H.out.jobs.row.of Sx) (by omega)).mono ?_; rintro e _ ⟨jA, jc, rfl, hrj, ⟨y2, rfl⟩⟩; have hy2 := y2.size; (try simp at hy2))
       | (go_at_call 14; refine (slots_any B d plan _ (H.out.plan.of Sx) (by omega)).mono ?_; rintro e _ ⟨pA, pc, rfl, hrs, ⟨y3, rfl⟩⟩; have hy3 := y3.size; (try simp at hy3))
       | (go_at_call 15; refine (events_any E ec evs _ (H.out.evs.of Sx) (by omega)).mono ?_; rintro e _ ⟨eA, ec2, rfl, hre, ⟨y4, rfl⟩⟩; have hy4 := y4.size; (try simp at hy4))
       | (go_at_call 11; refine (AP cA cc jA jc pA pc eA ec2 _ (hrc.of Sx) ((hrj.isRow encJ_len).of Sx) ((hrs.isRow encS_len).of Sx) ((hre.isRow encE_len).of Sx) Sx (by omega) hrs.le_cap (by omega)).mono ?_; rintro e _ ⟨y, rfl, hst, hfr, ⟨y5, rfl⟩⟩; have hy5 := y5.size; (try simp at hy5); obtain ⟨⟨ysA, ysc, ycals, ysB, ysd, yR, ymost⟩, yA, yc, yL, ygA, ygc, ybg, ypA, ypc, ypd, ydA, ydc, ydr⟩ := y; have HY := Lib.hid (And.intro hst hfr); clear hst hfr))
    all_goals go_wp2_with fail
    all_goals go_meet
    all_goals
     (try clear HC H AP)
     refine ⟨_, ⟨⟨ysA, ysc, ycals, ysB, ysd, yR, ymost⟩, yA, yc, yL, ygA, ygc, ybg, ypA, ypc, ypd, ydA, ydc, ydr⟩, rfl, rfl, ?_, ?_, HY.out.1, Sx⟩
     · first
        | (with_reducible refine alloc_at _ _ _ ?_; rfl)
        | (refine (st_second (y := ⟨⟨ysA, ysc, ycals, ysB, ysd, yR, ymost⟩, yA, yc, yL, ygA, ygc, ybg, ypA, ypc, ypd, ydA, ydc, ydr⟩) (zc := #[.slice none 0 0, .slice none 0 0, .int .i64 0, .slice none 0 0, .slice none 0 0, .slice none 0 0, .slice none 0 0]) rfl ?_ HY.out.2 ?_).1
           · refine heapMade ?_ rfl
             (repeat (with_reducible first | exact Sr _ | assumption | refine Sa ?_ _ | refine Sd ?_ | refine Sn ?_ _ | refine Se ?_ _ | refine Sf ?_ _ | refine Sc ?_ (by first | exact Nat.le_refl _ | (simp; done) | omega | (simp; omega)) _))
           · first | omega | (simp; done) | (simp; omega))
     · have hS5 := HY.out.2
       have hA := fun o => (stAlloc hS5 o).le (m := z1.wd.heap.size) (by first | omega | (simp; done) | (simp; omega))
       first
        | (simp only [hA]; done)
        | exact (hS5.change (fun b hb _ => set7_ne (by (try simp at hb); omega)) set7_size).le (by first | omega | (simp; done) | (simp; omega))
   case rest =>
    obtain ⟨o, y, rfl, rfl, hO, hS, hv, ⟨z2, rfl⟩⟩ := hcut
    obtain ⟨y1, y2, y3, y4, y5⟩ := er_lensA hv HLA.out
    have TH := fun W (hW : SinceOf z2.wd W) => theirs54_any y W (hS.state.of hW) (by omega) (by omega) (by omega) (by omega)
    rw [hv] at TH
    have RA := HC.out
    have hz2 := z2.size
    clear hS hv HC
    obtain ⟨⟨ysA, ysc, ycals, ysB, ysd, yR, ymost⟩, yA, yc, yL, ygA, ygc, ybg, ypA, ypc, ypd, ydA, ydc, ydr⟩ := y
    simp only at y1 y2 y3 y4 y5
    have v0 := cell_of (i := 0) hO rfl
    have v1 := cell_of (i := 1) hO rfl
    have v2 := cell_of (i := 2) hO rfl
    have v3 := cell_of (i := 3) hO rfl
    have v4 := cell_of (i := 4) hO rfl
    have v5 := cell_of (i := 5) hO rfl
    have v6 := cell_of (i := 6) hO rfl
    have hOo : Nonempty (Old z2.wd o) := ⟨⟨heap_lt hO⟩⟩
    clear hO y4
    go_wp2_with fail
    refine (RA _ Sx).mono ?_
    rintro e _ ⟨t, rfl, hv2, hti, ⟨z3, rfl⟩⟩
    have hz3 := z3.size
    (try simp at hz3)
    have SS : ∀ (r : StR) W, SinceOf z3.wd W → IsState W r → erSt r = v → Yields Tryz.prog 17 #[stateV r, stateV t] W (.bool true) := fun r W hW h1 h2 => by
     obtain ⟨g1, g2, g3, g4, g5⟩ := er_lensA h2 HLA.out
     exact refSameState_any r t W h1 (hti.of hW) (h2.trans hv2.symm) (by omega) (by omega) g1 g4
    clear RA hti hv2
    obtain ⟨⟨tsA, tsc, tcals, tsB, tsd, tR, tmost⟩, tA, tc, tL, tgA, tgc, tbg, tpA, tpc, tpd, tdA, tdc, tdr⟩ := t
    simp only [stateV] at SS
    go_upto_region 7 with fail
    go_region_held3 (fun w' => w'.cell? ⟨o, 0, none⟩ = some (.slice ysA ycals.length ysc) ∧ w'.cell? ⟨o, 1, none⟩ = some (.slice ysB yR.length ysd) ∧ w'.cell? ⟨o, 2, none⟩ = some (.int .i64 ymost) ∧ w'.cell? ⟨o, 3, none⟩ = some (.slice yA yL.length yc) ∧ w'.cell? ⟨o, 4, none⟩ = some (.slice ygA ybg.length ygc) ∧ w'.cell? ⟨o, 5, none⟩ = some (.slice ypA ypd.length ypc) ∧ w'.cell? ⟨o, 6, none⟩ = some (.slice ydA ydr.length ydc) ∧ w'.cell? ⟨z3.wd.heap.size, 0, none⟩ = some (.slice tsA tcals.length tsc) ∧ w'.cell? ⟨z3.wd.heap.size, 1, none⟩ = some (.slice tsB tR.length tsd) ∧ w'.cell? ⟨z3.wd.heap.size, 2, none⟩ = some (.int .i64 tmost) ∧ w'.cell? ⟨z3.wd.heap.size, 3, none⟩ = some (.slice tA tL.length tc) ∧ w'.cell? ⟨z3.wd.heap.size, 4, none⟩ = some (.slice tgA tbg.length tgc) ∧ w'.cell? ⟨z3.wd.heap.size, 5, none⟩ = some (.slice tpA tpd.length tpc) ∧ w'.cell? ⟨z3.wd.heap.size, 6, none⟩ = some (.slice tdA tdr.length tdc)) ((simp [go_sem, *]))
     (first
       | (go_at_call 18; refine (TH _ Sx).mono ?_; rintro e _ ⟨r, rfl, hr, hri, ⟨x8, rfl⟩⟩; have hx8 := x8.size; (try simp at hx8); have SS1 := fun W (hW : SinceOf x8.wd W) => SS r W ((show SinceOf z3.wd x8.wd from Sx).trans hW) (hri.of hW) hr; clear SS hri hr; obtain ⟨⟨rsA, rsc, rcals, rsB, rsd, rR, rmost⟩, rA, rc, rL, rgA, rgc, rbg, rpA, rpc, rpd, rdA, rdc, rdr⟩ := r)
       | (go_at_call 17; refine (SS1 _ Sx).calls.mono ?_; rintro e _ ⟨rfl, x9, rfl⟩))
    all_goals
     go_wp2_with fail
     go_returns
     exact ⟨rfl, Sx⟩
end Go.Proofs.YtpaojgfmffkodaaGreat
