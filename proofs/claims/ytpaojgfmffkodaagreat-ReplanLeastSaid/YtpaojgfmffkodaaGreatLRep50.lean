/- Layer 54: the law's apply: the state behind the events of a small case. -/
import Derived.Test.YtpaojgfmffkodaaGreatLRep18
import Derived.Test.YtpaojgfmffkodaaGreatLRep2
import Derived.Test.YtpaojgfmffkodaaGreatLRepP13
namespace Go.Proofs.YtpaojgfmffkodaaGreat
set_option linter.unusedVariables false
set_option linter.unusedSimpArgs false
open Go.RowKit Go.Sort
attribute [local go_sem ↓] Go.wp_at_zero Go.wp_at_succ
theorem stepV_len (x : StP) (now : Int) (v : EvR) : (stepV x now v).2.L.length ≤ x.L.length + 1 := by
  unfold stepV shutV dropV againV setCal
  (repeat' split) <;> (try simp)
theorem runV_len (now : Int) : ∀ (evs : List EvR) (x : StP), (runV now x evs).2.L.length ≤ x.L.length + evs.length
  | [], x => Nat.le_refl _
  | v :: r, x => by
    rw [runV_cons]
    have h := stepV_len x now v
    split
    · have := runV_len now r (stepV x now v).2
      simp only [List.length_cons]
      omega
    · simp only [List.length_cons]
      omega
theorem Applied.lens {s : ShopR} {L : List JobR} {plan : List SlotR} {now : Int} {evs : List EvR} {x1 x : StP} {b : List SlotR} (h : Applied s L plan now evs x1 b x) : x.L.length ≤ L.length + evs.length ∧ x.bg.length ≤ plan.length ∧ x.pd.length ≤ plan.length ∧ x.dr.length = x.L.length := by
  have h1 := runV_len now evs (startV s L plan now)
  rw [← h.run] at h1
  have e1 : (startV s L plan now).L.length = L.length := erL_length L
  have e2 := (ends_map h.ends).1
  have e3 := h.inv.bg
  have e4 := h.inv.pd
  have e5 := h.inv.dr
  rw [h.x]
  simp only [List.length_mapIdx]
  refine ⟨by omega, ?_, ?_, e5⟩
  · rw [e2, List.length_map, e3]
    exact List.length_filter_le _ _
  · rw [(sortS_perm _).length_eq, e4]
    exact Nat.le_trans (List.length_filter_le _ _) (List.length_filter_le _ _)
def caseB (x : CaseR) : Bool := smallK x.s x.L x.plan x.now x.evs.length && (decide (x.plan.length ≤ 6) && decide (x.evs.length ≤ 4))
structure CaseSt (x : CaseR) (y : StR) : Prop where
  small : caseB x = true
  zero : (applyV x.s x.L x.plan x.now x.evs).1 = 0
  st : erSt y = (applyV x.s x.L x.plan x.now x.evs).2
theorem small_few {s : ShopR} {L : List JobR} {l : List SlotR} {now : Int} {en : Nat} (h : smallK s L l now en = true) : fewP s L = true ∧ l.length ≤ 8 ∧ en ≤ 25 := by
  unfold smallK at h
  simp only [Bool.and_eq_true, decide_eq_true_eq] at h
  obtain ⟨-, -, h1, h2, h3, -⟩ := h
  exact ⟨h1, by omega, by omega⟩
theorem few_lens54 {s : ShopR} {L : List JobR} (h : fewP s L = true) : s.cals.length ≤ 3 ∧ L.length ≤ 8 ∧ s.rows.length ≤ 9 := by
  unfold fewP at h
  simp only [Bool.and_eq_true, decide_eq_true_eq] at h
  obtain ⟨-, -, h1, h2, h3⟩ := h
  exact ⟨by omega, by omega, by omega⟩
theorem CaseSt.applied {x : CaseR} {y : StR} (h : CaseSt x y) : ∃ x1 b, Applied x.s x.L x.plan x.now x.evs x1 b (erSt y) := by
  rw [h.st]
  exact apply_ok h.zero
theorem CaseSt.lens {x : CaseR} {y : StR} (h : CaseSt x y) : x.plan.length ≤ 6 ∧ x.evs.length ≤ 4 ∧ y.L.length ≤ 12 ∧ y.bg.length ≤ 6 ∧ y.pd.length ≤ 6 ∧ y.dr.length = y.L.length := by
  obtain ⟨x1, b, ha⟩ := h.applied
  obtain ⟨l1, l2, l3, l4⟩ := ha.lens
  have hs := h.small
  unfold caseB at hs
  simp only [Bool.and_eq_true, decide_eq_true_eq] at hs
  have hf := few_lens54 (small_few hs.1).1
  have e1 : (erSt y).L.length = y.L.length := erL_length y.L
  have e2 : (erSt y).bg.length = y.bg.length := rfl
  have e3 : (erSt y).pd.length = y.pd.length := rfl
  have e4 : (erSt y).dr.length = y.dr.length := rfl
  exact ⟨hs.2.1, hs.2.2, by omega, by omega, by omega, by omega⟩
theorem CaseSt.ok {x : CaseR} {y : StR} (h : CaseSt x y) : StOk x.now (erSt y) := by
  obtain ⟨x1, b, ha⟩ := h.applied
  exact applied_ok ha
theorem applyV_cals (s : ShopR) (A : Option Addr) (c : Nat) (L : List JobR) (plan : List SlotR) (now : Int) (evs : List EvR) : applyV (withCals s A c) L plan now evs = applyV s L plan now evs := by
  rw [applyV_er (withCals s A c), applyV_er s]
  rfl
theorem stAlloc {n : Nat} {W : World} {y : StR} (h : StFrom n W y) (o : Obj) : StFrom n (W.alloc o) y := h.of ((SinceOf.refl _).alloc _)
theorem applyC_any (s : ShopR) (L : List JobR) (plan : List SlotR) (now : Int) (evs : List EvR) (cA : Option Addr) (cc : Nat) (jA : Option Addr) (jc : Nat) (sA : Option Addr) (sc : Nat) (eA : Option Addr) (ec : Nat) (w W : World) (hs : IsShop w s) {A : Option Addr} {c : Nat} (hL : IsJobs w A c L) (h1 : IsRow encC 3 W cA cc s.cals) (h2 : IsRow encJ 6 W jA jc L) (h3 : IsSlots W sA sc plan) (h4 : IsEvs W eA ec evs) (hW : SinceOf w W) (hpl : plan.length ≤ 1000000) (hpc : plan.length ≤ sc) (hel : evs.length ≤ 1000000) :
    Calls Tryz.prog 11 #[.agg #[.slice cA s.cals.length cc, .slice s.B s.rows.length s.d, .int .i64 s.most], .slice jA L.length jc, .slice sA plan.length sc, .int .i64 now, .slice eA evs.length ec] W fun e w' => ∃ y : StR, e = .returned (.tuple #[stateV y, .int .i64 (applyV s L plan now evs).1]) ∧ erSt y = (applyV s L plan now evs).2 ∧ StFrom W.heap.size w' y ∧ SinceOf W w' := by
  have h := apply_any (withCals s cA cc) jA jc L sA sc plan now eA ec evs W (shop_at hs h1 hW) (jobs_at hL h2 hW) h3 h4 hpl hpc (by omega)
  rw [applyV_cals] at h
  exact h
def ApplyOut (cs : StR → Prop) (w : World) (e : Ending) (w' : World) : Prop := ∃ (b : Bool) (y : StR), e = .returned (.tuple #[stateV y, .bool b]) ∧ IsState w' y ∧ (b = true → cs y) ∧ SinceOf w w'
set_option maxRecDepth 100000 in
set_option maxHeartbeats 16000000 in
theorem apply54_any (x : CaseR) (w : World) (hx : IsCase w x) :
    Calls Tryz.prog 19 #[caseV x] w (ApplyOut (CaseSt x) w) := by
  have SM := fun W (hW : SinceOf w W) => smallCase_any x W (hx.of hW)
  have AP := fun cA cc jA jc sA sc eA ec W => applyC_any x.s x.L x.plan x.now x.evs cA cc jA jc sA sc eA ec w W hx.shop hx.jobs
  have HS : smallK x.s x.L x.plan x.now x.evs.length = true → x.plan.length ≤ 6 → x.evs.length ≤ 4 → caseB x = true := fun h1 h2 h3 => by
    unfold caseB
    rw [h1, decide_eq_true h2, decide_eq_true h3]
    rfl
  have CS : ∀ y, caseB x = true → (applyV x.s x.L x.plan x.now x.evs).1 = 0 → erSt y = (applyV x.s x.L x.plan x.now x.evs).2 → CaseSt x y := fun y h1 h2 h3 => ⟨h1, h2, h3⟩
  have FL : smallK x.s x.L x.plan x.now x.evs.length = true → x.s.cals.length ≤ 3 ∧ x.L.length ≤ 8 := fun h => by
    have := few_lens54 (small_few h).1
    omega
  obtain ⟨k, hk⟩ : ∃ k, k = smallK x.s x.L x.plan x.now x.evs.length := ⟨_, rfl⟩
  obtain ⟨cx, hcx⟩ : ∃ P : StR → Prop, P = CaseSt x := ⟨_, rfl⟩
  rw [← hcx]
  rw [← hcx] at CS
  rw [← hk] at SM HS FL
  generalize caseB x = cb at HS CS
  clear hk hcx
  obtain ⟨⟨sA, sc, cals, sB, sd, R, most⟩, A, c, L, B, d, plan, now, E, ec, evs⟩ := x
  simp only at SM AP HS CS FL
  have H := Lib.hid hx
  clear hx
  cases k
  · clear AP HS CS FL
    go_enter Tryz.func19, Tryz.ntmps19
    go_wp2_with fail
    refine (SM _ Sx).calls.mono ?_
    rintro e _ ⟨rfl, z1, rfl⟩
    go_wp2_with fail
    go_returns
    exact ⟨false, zeroSt, rfl, zeroSt_is _, (by intro h; cases h), Sx⟩
  · obtain ⟨f1, f2⟩ := FL rfl
    by_cases e1 : plan.length ≤ 6
    · by_cases e2 : evs.length ≤ 4
      · have hcb := HS rfl e1 e2
        have CS := fun y => CS y hcb
        have i1 : ¬ 6 < (plan.length : Int) := by omega
        have i2 : ¬ 4 < (evs.length : Int) := by omega
        obtain ⟨va, hva⟩ : ∃ v, v = applyV ⟨sA, sc, cals, sB, sd, R, most⟩ L plan now evs := ⟨_, rfl⟩
        rw [← hva] at CS
        simp only [← hva] at AP
        clear hva HS hcb FL
        obtain ⟨q, v⟩ := va
        simp only at AP CS
        have HC := Lib.hid CS
        clear CS
        go_enter Tryz.func19, Tryz.ntmps19
        go_wp2_with fail
        refine (SM _ Sx).calls.mono ?_
        rintro e _ ⟨rfl, z1, rfl⟩
        clear SM
        have hz1 := z1.size
        (try simp at hz1)
        go_upto_region 3 with fail
        go_cut [4, 5] (fun s4 s5 wx => ∃ (o : Nat) (y : StR), s4 = .pointer (some ⟨o, 0, none⟩) ∧ s5 = .int .i64 q ∧ wx.heap[o]? = some (Obj.cells #[.slice y.s.A y.s.cals.length y.s.c, .slice y.s.B y.s.rows.length y.s.d, .int .i64 y.s.most, .slice y.A y.L.length y.c, .slice y.gA y.bg.length y.gc, .slice y.pA y.pd.length y.pc, .slice y.dA y.dr.length y.dc] 42 (0, 0)) ∧ StFrom z1.wd.heap.size wx y ∧ erSt y = v ∧ SinceOf z1.wd wx)
        case first =>
          go_region_held3 (fun w' => w'.cell? ⟨w.heap.size, 0, none⟩ = some (.slice sA cals.length sc) ∧ w'.cell? ⟨w.heap.size, 1, none⟩ = some (.slice sB R.length sd) ∧ w'.cell? ⟨w.heap.size, 2, none⟩ = some (.int .i64 most) ∧ w'.cell? ⟨w.heap.size, 3, none⟩ = some (.slice A L.length c) ∧ w'.cell? ⟨w.heap.size, 4, none⟩ = some (.slice B plan.length d) ∧ w'.cell? ⟨w.heap.size, 5, none⟩ = some (.int .i64 now) ∧ w'.cell? ⟨w.heap.size, 6, none⟩ = some (.slice E evs.length ec)) ((simp [go_sem, *]))
            (first
              | (go_at_call 12; refine (own52b_any ⟨sA, sc, cals, sB, sd, R, most⟩ _ (H.out.shop.of Sx) (by simp only; omega)).mono ?_; rintro e _ ⟨cA, cc, rfl, hrc, hbc, ⟨y1, rfl⟩⟩; have hy1 := y1.size; (try simp at hy1))
              | (go_at_call 13; refine (jobs_any A c L _ (H.out.jobs.row.of Sx) (by omega)).mono ?_; rintro e _ ⟨jA, jc, rfl, hrj, ⟨y2, rfl⟩⟩; have hy2 := y2.size; (try simp at hy2))
              | (go_at_call 14; refine (slots_any B d plan _ (H.out.plan.of Sx) (by omega)).mono ?_; rintro e _ ⟨pA, pc, rfl, hrs, ⟨y3, rfl⟩⟩; have hy3 := y3.size; (try simp at hy3))
              | (go_at_call 15; refine (events_any E ec evs _ (H.out.evs.of Sx) (by omega)).mono ?_; rintro e _ ⟨eA, ec2, rfl, hre, ⟨y4, rfl⟩⟩; have hy4 := y4.size; (try simp at hy4))
              | (go_at_call 11; refine (AP cA cc jA jc pA pc eA ec2 _ (hrc.of Sx) ((hrj.isRow encJ_len).of Sx) ((hrs.isRow encS_len).of Sx) ((hre.isRow encE_len).of Sx) Sx (by omega) hrs.le_cap (by omega)).mono ?_; rintro e _ ⟨y, rfl, hst, hfr, ⟨y5, rfl⟩⟩; have hy5 := y5.size; (try simp at hy5); obtain ⟨⟨ysA, ysc, ycals, ysB, ysd, yR, ymost⟩, yA, yc, yL, ygA, ygc, ybg, ypA, ypc, ypd, ydA, ydc, ydr⟩ := y; have HY := Lib.hid (And.intro hst hfr); clear hst hfr))
          all_goals go_wp2_with fail
          all_goals go_meet
          all_goals
            (try clear HC H AP)
            refine ⟨_, ⟨⟨ysA, ysc, ycals, ysB, ysd, yR, ymost⟩, yA, yc, yL, ygA, ygc, ybg, ypA, ypc, ypd, ydA, ydc, ydr⟩, rfl, rfl, ?_, ?_, HY.out.1, Sx⟩
            · first
                | (with_reducible refine alloc_at _ _ _ ?_; rfl)
                | (refine (st_second (y := ⟨⟨ysA, ysc, ycals, ysB, ysd, yR, ymost⟩, yA, yc, yL, ygA, ygc, ybg, ypA, ypc, ypd, ydA, ydc, ydr⟩) (zc := #[.slice none 0 0, .slice none 0 0, .int .i64 0, .slice none 0 0, .slice none 0 0, .slice none 0 0, .slice none 0 0]) rfl ?_ HY.out.2 ?_).1
                   · refine heapMade ?_ rfl
                     (repeat (with_reducible first | exact Sr _ | assumption | refine Sa ?_ _ | refine Sd ?_ | refine Sn ?_ _ | refine Se ?_ _ | refine Sf ?_ _ | refine Sc ?_ (by first | exact Nat.le_refl _ | (simp; done) | omega | (simp; omega)) _))
                   · first | omega | (simp; done) | (simp; omega))
            · have hS5 := HY.out.2
              have hA := fun o => (stAlloc hS5 o).le (m := z1.wd.heap.size) (by first | omega | (simp; done) | (simp; omega))
              first
                | (simp only [hA]; done)
                | exact (hS5.change (fun b hb _ => set7_ne (by (try simp at hb); omega)) set7_size).le (by first | omega | (simp; done) | (simp; omega))
        case rest =>
          obtain ⟨o, y, rfl, rfl, hO, hS, hv, ⟨z2, rfl⟩⟩ := hcut
          have hcy := HC.out y
          obtain ⟨⟨ysA, ysc, ycals, ysB, ysd, yR, ymost⟩, yA, yc, yL, ygA, ygc, ybg, ypA, ypc, ypd, ydA, ydc, ydr⟩ := y
          have v0 := cell_of (i := 0) hO rfl
          have v1 := cell_of (i := 1) hO rfl
          have v2 := cell_of (i := 2) hO rfl
          have v3 := cell_of (i := 3) hO rfl
          have v4 := cell_of (i := 4) hO rfl
          have v5 := cell_of (i := 5) hO rfl
          have v6 := cell_of (i := 6) hO rfl
          have hOo : Nonempty (Old z2.wd o) := ⟨⟨heap_lt hO⟩⟩
          have hz2 := z2.size
          have HS2 := Lib.hid hS
          have HC2 := Lib.hid (And.intro hv hcy)
          clear hO hS hv hcy
          go_wp2_with fail
          go_returns
          exact ⟨_, ⟨⟨ysA, ysc, ycals, ysB, ysd, yR, ymost⟩, yA, yc, yL, ygA, ygc, ybg, ypA, ypc, ypd, ydA, ydc, ydr⟩, rfl, (HS2.out.change (fun b hb _ => set7_ne (by omega)) set7_size).state, fun hq => HC2.out.2 (by simpa using hq) HC2.out.1, Sx⟩
      · have i1 : ¬ 6 < (plan.length : Int) := by omega
        have i2 : 4 < (evs.length : Int) := by omega
        clear AP HS CS FL
        go_enter Tryz.func19, Tryz.ntmps19
        go_wp2_with fail
        refine (SM _ Sx).calls.mono ?_
        rintro e _ ⟨rfl, z1, rfl⟩
        go_wp2_with fail
        go_returns
        exact ⟨false, zeroSt, rfl, zeroSt_is _, (by intro h; cases h), Sx⟩
    · have i1 : 6 < (plan.length : Int) := by omega
      clear AP HS CS FL
      go_enter Tryz.func19, Tryz.ntmps19
      go_wp2_with fail
      refine (SM _ Sx).calls.mono ?_
      rintro e _ ⟨rfl, z1, rfl⟩
      go_wp2_with fail
      go_returns
      exact ⟨false, zeroSt, rfl, zeroSt_is _, (by intro h; cases h), Sx⟩
end Go.Proofs.YtpaojgfmffkodaaGreat
