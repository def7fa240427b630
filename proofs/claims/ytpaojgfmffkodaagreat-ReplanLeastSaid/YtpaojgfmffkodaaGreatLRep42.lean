/- Layer 54: the reference's better and Least. -/
import Derived.Test.YtpaojgfmffkodaaGreatLRep41
import Derived.Test.YtpaojgfmffkodaaGreatLRep11
import Derived.Deep.RegionHeld3
import Derived.Deep.CutBlock
namespace Go.Proofs.YtpaojgfmffkodaaGreat
set_option linter.unusedVariables false
set_option linter.unusedSimpArgs false
open Go.RowKit Go.Sort
attribute [local go_sem ↓] Go.wp_at_zero Go.wp_at_succ
def missTo (l : List SlotR) (i : Nat) : Int := ((List.range i).countP (fun j => !hasB l j) : Nat)
theorem missTo_succ (l : List SlotR) (i : Nat) : missTo l (i + 1) = missTo l i + (if hasB l i = true then 0 else 1) := by
  unfold missTo; rw [List.range_succ, List.countP_append]
  simp only [List.countP_singleton]
  cases hasB l i <;> simp
theorem missTo_all (l : List SlotR) : ∀ n, missTo l n = missN n l
  | 0 => by simp [missTo, missN]
  | n + 1 => by
    rw [missTo_succ, missTo_all l n]
    unfold missN
    rw [List.range_succ, List.countP_append]
    simp only [List.countP_singleton]
    cases hasB l n <;> simp <;> omega
theorem missTo_bounds (l : List SlotR) (i : Nat) : 0 ≤ missTo l i ∧ missTo l i ≤ i := by
  rw [missTo_all]; exact missN_bounds i l
set_option maxRecDepth 100000 in
set_option maxHeartbeats 8000000 in
theorem refPrice_any (A : Option Addr) (c : Nat) (L : List JobR) (B : Option Addr) (d : Nat) (l : List SlotR) (w : World) (h : IsJobs w A c L) (hL : L.length < 1073741824) (hdue : ∀ j ∈ L, 0 ≤ j.due ∧ j.due ≤ 1000000) (hl : IsSlots w B d l) (hll : l.length < 1073741824) (hn : ∀ x ∈ l, (0 ≤ x.job ∧ x.job < L.length) ∧ 0 ≤ x.stop ∧ x.stop ≤ 1000000) :
    Yields Tryz.prog 98 #[.slice A L.length c, .slice B l.length d] w (slotV (priceV L l)) := by
  apply Yields.ret
  have H := Lib.hid (And.intro h (And.intro hdue (And.intro hl hn)))
  obtain ⟨pv, hpv0⟩ : ∃ v, v = priceV L l := ⟨_, rfl⟩
  rw [← hpv0]
  have HP := Lib.hid hpv0
  clear h hdue hl hn hpv0
  go_enter Tryz.func98, Tryz.ntmps98
  go_wp2_with fail
  go_loopg [6] L.length (fun gas s6 wr => ∃ i : Nat, i ≤ L.length ∧ L.length - i ≤ gas ∧ s6 = .int .i64 i ∧ SinceOf (w.alloc (.cells #[.int .i64 0, .int .i64 0, .int .i64 0, .int .i64 0] 158)) wr ∧ SlotW wr (w.heap.size + 1) ⟨missTo l i, 0, 0, 0⟩)
  case atStart => exact ⟨0, by omega, by omega, rfl, Sx, ⟨by simp [go_sem, missTo], by simp [go_sem], by simp [go_sem], by simp [go_sem], by simp [go_sem], by simp [go_sem], by simp [go_sem], by simp [go_sem], inferInstance⟩⟩
  case round =>
    obtain ⟨i, hi, hgas, rfl, ⟨z, rfl⟩, hsw⟩ := hrel
    by_cases hlt : i < L.length
    · have hms := missTo_succ l i
      have hM := missTo_bounds l i
      generalize missTo l i = M at *
      have HS := Lib.hid (And.intro hsw hms)
      clear hsw hms
      go_wp2_with fail
      go_loopg [7, 8] l.length (fun gas s7 s8 wr => ∃ k : Nat, k ≤ l.length ∧ l.length - k ≤ gas ∧ s7 = .bool (!((l.take k).any fun y => y.job == (i : Int))) ∧ s8 = .int .i64 k ∧ LaterOf z.wd wr)
      case atStart => exact ⟨0, by omega, by omega, rfl, rfl, Lx⟩
      case round =>
        obtain ⟨k, hk, hgas2, rfl, rfl, ⟨z2, rfl⟩⟩ := hrel
        by_cases hltk : k < l.length
        · have hat := any_take_succ (fun y : SlotR => y.job == (i : Int)) hltk
          obtain ⟨gs, os, rfl, hrs⟩ := (H.out.2.2.1.of (show SinceOf w z2.wd from Sx)).at_ (by omega)
          have hOs := hrs.there
          have s0 := hrs.s0 k hltk
          generalize l[k].job = xj at *
          generalize ((l.take k).any fun y => y.job == (i : Int)) = q at *
          have HA := Lib.hid hat
          clear hrs hat
          cases q
          all_goals
            simp only [Bool.not_false, Bool.not_true]
            go_wp2_with fail
            go_roundg (l.length - (k + 1))
            case measure => omega
            case rel => exact ⟨k + 1, hltk, Nat.le_refl _, by rw [HA.out]; first | rfl | simp [bne], by go_num, Lx⟩
        · have hkl : k = l.length := by omega
          have e : ((l.take k).any fun y => y.job == (i : Int)) = hasB l i := by rw [hkl, List.take_length]; rfl
          rw [e]
          have hms := HS.out.2
          have hsw := HS.out.1.of (LaterOf.since ⟨z2, rfl⟩)
          generalize hasB l i = q at *
          clear e hkl
          have HM := Lib.hid (And.intro hms hsw)
          obtain ⟨b0, b1, b2, b3, e0, e1, e2, e3, hOp⟩ := hsw
          clear hms
          cases q
          · simp only [Bool.not_false]
            go_wp2_with fail
            go_roundg (L.length - (i + 1))
            case measure => omega
            case rel => exact ⟨i + 1, hlt, Nat.le_refl _, by go_num, Sx, by rw [HM.out.1, if_neg (by simp)]; exact HM.out.2.set0 (M + 1)⟩
          · simp only [Bool.not_true]
            go_wp2_with fail
            go_roundg (L.length - (i + 1))
            case measure => omega
            case rel => exact ⟨i + 1, hlt, Nat.le_refl _, by go_num, Sx, by rw [HM.out.1, if_pos (by trivial), Int.add_zero]; exact HM.out.2⟩
    · have hil : i = L.length := by omega
      rw [hil, missTo_all] at hsw
      have hM := missN_bounds L.length l
      have hpm : priceV L l = ⟨missN L.length l, tardyL L l, worstL L l, endL l⟩ := rfl
      generalize missN L.length l = M at *
      have HS := Lib.hid (And.intro hsw hpm)
      clear hsw hpm hil
      go_wp2_with fail
      go_loopg [9] l.length (fun gas s9 wr => ∃ k : Nat, k ≤ l.length ∧ l.length - k ≤ gas ∧ s9 = .int .i64 k ∧ SinceOf (w.alloc (.cells #[.int .i64 0, .int .i64 0, .int .i64 0, .int .i64 0] 158)) wr ∧ SlotW wr (w.heap.size + 1) ⟨M, tardyL L (l.take k), worstL L (l.take k), endL (l.take k)⟩)
      case atStart => exact ⟨0, by omega, by omega, rfl, Sx, HS.out.1⟩
      case round =>
        obtain ⟨k, hk, hgas2, rfl, hsi, hsw⟩ := hrel
        by_cases hltk : k < l.length
        · have hSw : SinceOf w wr := SinceOf.trans ((SinceOf.refl w).alloc _) hsi
          have hrow := H.out.2.2.1.of hSw
          obtain ⟨⟨hj0, hj1⟩, ht0, ht1⟩ := H.out.2.2.2 _ (List.getElem_mem hltk)
          obtain ⟨jn, hjn⟩ : ∃ q : Nat, l[k].job = q := ⟨l[k].job.toNat, by omega⟩
          have hjl : jn < L.length := by omega
          obtain ⟨hd0, hd1⟩ := H.out.2.1 _ (List.getElem_mem hjl)
          have hlate : lateOf L l[k] = l[k].stop - L[jn].due := by unfold lateOf; rw [hjn, jobAt_at hjl]
          have hT := tardyL_bounds L (l.take k) (fun y hy => by
            obtain ⟨⟨a1, a2⟩, a3, a4⟩ := H.out.2.2.2 y (List.mem_of_mem_take hy)
            unfold lateOf
            have : 0 ≤ (jobAt L y.job).due := by
              have := jobAt_at (L := L) (m := y.job.toNat) (by omega)
              rw [show ((y.job.toNat : Nat) : Int) = y.job by omega] at this
              rw [this]
              exact (H.out.2.1 _ (List.getElem_mem (by omega))).1
            omega)
          rw [List.length_take, Nat.min_eq_left hk] at hT
          have hpe : (⟨M, tardyL L (l.take (k + 1)), worstL L (l.take (k + 1)), endL (l.take (k + 1))⟩ : SlotR) = ⟨M, tardyL L (l.take k) + (if 0 < l[k].stop - L[jn].due then l[k].stop - L[jn].due else 0), if 0 < l[k].stop - L[jn].due then imax (worstL L (l.take k)) (l[k].stop - L[jn].due) else worstL L (l.take k), imax (endL (l.take k)) l[k].stop⟩ := by
            rw [List.take_succ_eq_append_getElem hltk, tardyL_append]
            simp only [tardyL, worstL, endL, List.foldl_append, List.foldl_cons, List.foldl_nil, hlate]
            simp
          generalize tardyL L (l.take k) = T at *
          generalize worstL L (l.take k) = Wo at *
          generalize endL (l.take k) = En at *
          have HG := Lib.hid (And.intro hpe (And.intro hsi hsw))
          have HK := Lib.hid (And.intro hlate hjn)
          clear hpe hsi hsw hlate
          go_upto_region 15 with fail
          go_cut [9] (fun s9 wx => s9 = .int .i64 k ∧ SlotW wx (w.heap.size + 1) ⟨M, T, Wo, imax En l[k].stop⟩ ∧ SinceOf (w.alloc (.cells #[.int .i64 0, .int .i64 0, .int .i64 0, .int .i64 0] 158)) wx)
          case first =>
            obtain ⟨gs, os, rfl, hrs⟩ := hrow.at_ (by omega)
            have hOs := hrs.there
            have s3 := hrs.s3 k hltk
            generalize l[k].stop = xe at *
            obtain ⟨p0, p1, p2, p3, e0, e1, e2, e3, hOp⟩ := HG.out.2.2
            clear hrs hrow hSw hjn
            go_big_region
            go_wp2_with fail
            go_meet
            exact ⟨rfl, by first | exact HG.out.2.2.set3 (imax En xe) | exact (HG.out.2.2.set3 (imax En xe)).of ((SinceOf.refl _).drew), by (have h9 := HG.out.2.1; (repeat (with_reducible first | exact Sr _ | assumption | refine Sa ?_ _ | refine Sd ?_ | refine Sn ?_ _ | refine Se ?_ _ | refine Sf ?_ _ | refine Sc ?_ (by first | exact Nat.le_refl _ | (simp; done) | omega | (simp; omega)) _)))⟩
          case rest =>
            obtain ⟨rfl, hsw, hsi⟩ := hcut
            clear hrow hSw
            obtain ⟨z5, rfl⟩ := hsi
            obtain ⟨gs, os, rfl, hrs⟩ := (H.out.2.2.1.of (show SinceOf w z5.wd from Sx)).at_ (by omega)
            have hOs := hrs.there
            have s0 := hrs.s0 k hltk
            have s3 := hrs.s3 k hltk
            obtain ⟨gj, oj, rfl, hrj⟩ := (H.out.1.row.of (show SinceOf w z5.wd from Sx)).at_ (by omega)
            have hOj := hrj.there
            have j4 := hrj.j4 jn hjl
            rw [HK.out.2] at s0
            generalize l[k].stop = xe at *
            generalize L[jn].due = du at *
            have HW := Lib.hid hsw
            obtain ⟨p0, p1, p2, p3, e0, e1, e2, e3, hOp⟩ := hsw
            have d0 : ¬ (jn : Int) < 0 := by omega
            have d1 : ¬ (L.length : Int) ≤ jn := by omega
            clear hrs hrj hjn hj0 hj1
            by_cases hla : 0 < xe - du
            · have hlb : decide (0 < xe - du) = true := by simpa using hla
              go_wp2_with fail
              refine region_later (by kernel_rfl) (by kernel_rfl) ?_
              repeat (go_big_quiet_step (fail))
              refine wpQuiet_nil ?_
              rintro _ ⟨z6, rfl⟩
              go_wp2_with fail
              go_roundg (l.length - (k + 1))
              case measure => omega
              case rel =>
                refine ⟨k + 1, hltk, Nat.le_refl _, by go_num, Sx, ?_⟩
                rw [HG.out.1, if_pos hla, if_pos hla]
                exact (((HW.out.of (LaterOf.since ⟨z6, rfl⟩)).set1 (T + (xe - du))).set2 (imax Wo (xe - du)))
            · have hlb : decide (0 < xe - du) = false := by simpa using hla
              go_wp2_with fail
              refine region_later (by kernel_rfl) (by kernel_rfl) ?_
              repeat (go_big_quiet_step (fail))
              refine wpQuiet_nil ?_
              rintro _ ⟨z6, rfl⟩
              go_wp2_with fail
              go_roundg (l.length - (k + 1))
              case measure => omega
              case rel =>
                refine ⟨k + 1, hltk, Nat.le_refl _, by go_num, Sx, ?_⟩
                rw [HG.out.1, if_neg (by omega), if_neg (by omega), Int.add_zero]
                exact HW.out.of (LaterOf.since ⟨z6, rfl⟩)
        · have hkl : k = l.length := by omega
          rw [hkl, List.take_length, ← HS.out.2, ← HP.out] at hsw
          obtain ⟨p0, p1, p2, p3, e0, e1, e2, e3, hOp⟩ := hsw
          obtain ⟨z5, rfl⟩ := hsi
          clear hkl
          go_wp2_with fail
          go_returns
          exact ⟨rfl, Sx⟩
set_option maxRecDepth 100000 in
set_option maxHeartbeats 8000000 in
theorem refBetter54_any (x : StR) (a b : ResM) (w : World) (hx : IsState w x) (ha : IsRes w a) (hb : IsRes w b) (hc : checkS x.s x.L = true) (hL : x.L.length < 1000000) (ga : GoodS x.s x.L a.r.slots) (gb : GoodS x.s x.L b.r.slots) (la : a.r.slots.length < 1000000) (lb : b.r.slots.length < 1000000) :
    Yields Tryz.prog 61 #[stateV x, resV a, resV b] w (.bool (betterB x.L a.r b.r)) := by
  apply Yields.ret
  have hdue : ∀ j ∈ x.L, 0 ≤ j.due ∧ j.due ≤ 1000000 := fun j hj => (job_parts (check_job hc hj)).2.2.2.2.2.1
  have PA := fun W (hW : SinceOf w W) => refPrice_any x.A x.c x.L a.A a.c a.r.slots W (hx.jobs.of hW) (by omega) hdue (ha.slots.of hW) (by omega) (good_stop ga)
  have PB := fun W (hW : SinceOf w W) => refPrice_any x.A x.c x.L b.A b.c b.r.slots W (hx.jobs.of hW) (by omega) hdue (hb.slots.of hW) (by omega) (good_stop gb)
  have LE := fun W => refLess_any (priceV x.L a.r.slots).job (priceV x.L a.r.slots).mach (priceV x.L a.r.slots).start (priceV x.L a.r.slots).stop (priceV x.L b.r.slots).job (priceV x.L b.r.slots).mach (priceV x.L b.r.slots).start (priceV x.L b.r.slots).stop W
  have hcq : costQ x.L a.r.slots b.r.slots = lessC (priceV x.L a.r.slots).job (priceV x.L a.r.slots).mach (priceV x.L a.r.slots).start (priceV x.L a.r.slots).stop (priceV x.L b.r.slots).job (priceV x.L b.r.slots).mach (priceV x.L b.r.slots).start (priceV x.L b.r.slots).stop := rfl
  rw [← hcq] at LE
  unfold betterB
  obtain ⟨⟨sA, sc, cals, sB, sd, R, most⟩, A, c, L, gA, gc, bg, pA, pc, pd, dA, dc, dr⟩ := x
  obtain ⟨⟨s1, m1, l1⟩, a1, c1, a2, c2, a3, c3⟩ := a
  obtain ⟨⟨s2, m2, l2⟩, b1, e1, b2, e2, b3, e3⟩ := b
  simp only at PA PB LE hL ⊢
  generalize priceV L s1 = p at *
  generalize priceV L s2 = q at *
  generalize costQ L s1 s2 = cq at *
  obtain ⟨p0, p1, p2, p3⟩ := p
  obtain ⟨q0, q1, q2, q3⟩ := q
  simp only at LE
  clear hx ha hb hc ga gb hdue hcq
  by_cases h1 : l1.length ≠ l2.length
  · rw [if_pos h1]
    have d1 : ((l1.length : Int) != (l2.length : Int)) = true := by simp; omega
    obtain ⟨rb, hrb⟩ : ∃ r, r = decide (l1.length < l2.length) := ⟨_, rfl⟩
    rw [← hrb]
    have d2 : decide ((l1.length : Int) < (l2.length : Int)) = rb := by rw [hrb]; simp
    clear hrb h1 PA PB LE
    go_enter Tryz.func61, Tryz.ntmps61
    go_wp2_with fail
    go_returns
    exact ⟨by first | rfl | (rw [← d2]; simp) | (simp [← d2]), Sx⟩
  · rw [if_neg h1]
    have d1 : ((l1.length : Int) != (l2.length : Int)) = false := by simp; omega
    by_cases h2 : m1.length ≠ m2.length
    · rw [if_pos h2]
      have d3 : ((m1.length : Int) != (m2.length : Int)) = true := by simp; omega
      obtain ⟨rb, hrb⟩ : ∃ r, r = decide (m1.length < m2.length) := ⟨_, rfl⟩
      rw [← hrb]
      have d2 : decide ((m1.length : Int) < (m2.length : Int)) = rb := by rw [hrb]; simp
      clear hrb h1 h2 PA PB LE
      go_enter Tryz.func61, Tryz.ntmps61
      go_wp2_with fail
      go_returns
      exact ⟨by first | rfl | (rw [← d2]; simp) | (simp [← d2]), Sx⟩
    · rw [if_neg h2]
      have d3 : ((m1.length : Int) != (m2.length : Int)) = false := by simp; omega
      clear h1 h2
      go_enter Tryz.func61, Tryz.ntmps61
      go_wp2_with fail
      go_region_held3 (fun w' => w'.cell? ⟨w.heap.size, 3, none⟩ = some (.slice A L.length c) ∧ w'.cell? ⟨w.heap.size + 1, 0, none⟩ = some (.slice a1 s1.length c1) ∧ w'.cell? ⟨w.heap.size + 1 + 1, 0, none⟩ = some (.slice b1 s2.length e1)) ((simp [go_sem, *]))
        (first
          | (go_at_call 98; (with_reducible refine (PA _ Sx).calls.mono ?_); rintro e _ ⟨rfl, z6, rfl⟩)
          | (go_at_call 98; (with_reducible refine (PB _ Sx).calls.mono ?_); rintro e _ ⟨rfl, z7, rfl⟩)
          | (go_at_call 97; refine (LE _).calls.mono ?_; rintro e _ ⟨rfl, z1, rfl⟩))
      all_goals
        go_wp2_with fail
        go_returns
        exact ⟨rfl, Sx⟩
set_option maxRecDepth 100000 in
set_option maxHeartbeats 16000000 in
theorem refLeast54_any (x : StR) (w : World) (hx : IsState w x) (hdr : x.dr.length = x.L.length) (hL : x.L.length < 1000) (hbl : x.bg.length < 100000) (hpl : x.pd.length < 100000) (hnd : ((x.bg ++ x.pd).map (·.job)).Nodup) :
    Calls Tryz.prog 27 #[stateV x] w fun e w' => ∃ y : ResM, e = .returned (.tuple #[resV y, .int .i64 (leastV (erSt x)).1]) ∧ y.r = (leastV (erSt x)).2 ∧ IsRes w' y ∧ SinceOf w w' := by
  have hle : (erSt x).pd = x.pd := rfl
  by_cases h8 : 8 < x.pd.length
  · have hv : leastV (erSt x) = (9, noRes) := by unfold leastV; rw [if_pos (by rw [hle]; exact h8)]
    rw [hv]
    obtain ⟨⟨sA, sc, cals, sB, sd, R, most⟩, A, c, L, gA, gc, bg, pA, pc, pd, dA, dc, dr⟩ := x
    simp only at hdr hL hbl hpl h8
    clear hx hle hv hnd
    go_enter Tryz.func27, Tryz.ntmps27
    go_wp2_with fail
    go_returns
    exact ⟨zeroM, rfl, rfl, zeroM_is _, Sx⟩
  rw [leastV_opt (x := erSt x) h8, hle]
  have KE := fun (B' : Option Addr) (d' : Nat) (kept : List Int) W (hW : SinceOf w W) (h1 : IsInts W B' d' kept) (h2 : kept.length < 1000000) => refKeep54_any x B' d' kept W (hx.of hW) h1 h2 hdr hL (by omega) (by omega) hnd
  have BT := fun (a b : ResM) W (hW : SinceOf w W) (ha : IsRes W a) (hb : IsRes W b) (hc : checkS x.s x.L = true) (ga : GoodS x.s x.L a.r.slots) (gb : GoodS x.s x.L b.r.slots) (la : a.r.slots.length < 1000000) (lb : b.r.slots.length < 1000000) => refBetter54_any x a b W (hx.of hW) ha hb hc (by omega) ga gb la lb
  have KG := fun kept (h : (keepV (erSt x) kept).1 = 0) => keep_good h
  obtain ⟨⟨sA, sc, cals, sB, sd, R, most⟩, A, c, L, gA, gc, bg, pA, pc, pd, dA, dc, dr⟩ := x
  simp only [stateV] at KE BT KG
  simp only at hdr hL hbl hpl h8
  rw [hdr] at KE BT
  have hst : ∀ best set, leastStep (erSt ⟨⟨sA, sc, cals, sB, sd, R, most⟩, A, c, L, gA, gc, bg, pA, pc, pd, dA, dc, dr⟩) best set = if (keepV (erSt ⟨⟨sA, sc, cals, sB, sd, R, most⟩, A, c, L, gA, gc, bg, pA, pc, pd, dA, dc, dr⟩) (bitsL pd.length set)).1 = 0 then (match best with
    | none => some (keepV (erSt ⟨⟨sA, sc, cals, sB, sd, R, most⟩, A, c, L, gA, gc, bg, pA, pc, pd, dA, dc, dr⟩) (bitsL pd.length set)).2
    | some b => if betterB L (keepV (erSt ⟨⟨sA, sc, cals, sB, sd, R, most⟩, A, c, L, gA, gc, bg, pA, pc, pd, dA, dc, dr⟩) (bitsL pd.length set)).2 b = true then some (keepV (erSt ⟨⟨sA, sc, cals, sB, sd, R, most⟩, A, c, L, gA, gc, bg, pA, pc, pd, dA, dc, dr⟩) (bitsL pd.length set)).2 else some b) else best := fun best set => by
    cases best with
    | none => rfl
    | some b =>
      unfold leastStep
      simp only
      rw [show betterB (erSt ⟨⟨sA, sc, cals, sB, sd, R, most⟩, A, c, L, gA, gc, bg, pA, pc, pd, dA, dc, dr⟩).L = betterB L from funext fun a => funext fun b => betterB_er L a b]
      rfl
  have hLT : ∀ k best, leastTo (erSt ⟨⟨sA, sc, cals, sB, sd, R, most⟩, A, c, L, gA, gc, bg, pA, pc, pd, dA, dc, dr⟩) (k + 1) best = leastTo (erSt ⟨⟨sA, sc, cals, sB, sd, R, most⟩, A, c, L, gA, gc, bg, pA, pc, pd, dA, dc, dr⟩) k (leastStep (erSt ⟨⟨sA, sc, cals, sB, sd, R, most⟩, A, c, L, gA, gc, bg, pA, pc, pd, dA, dc, dr⟩) best k) := fun k best => rfl
  have hL0 : ∀ best, leastTo (erSt ⟨⟨sA, sc, cals, sB, sd, R, most⟩, A, c, L, gA, gc, bg, pA, pc, pd, dA, dc, dr⟩) 0 best = best := fun best => rfl
  generalize erSt ⟨⟨sA, sc, cals, sB, sd, R, most⟩, A, c, L, gA, gc, bg, pA, pc, pd, dA, dc, dr⟩ = P at *
  obtain ⟨F0, hF0⟩ : ∃ F0, F0 = leastTo P (2 ^ pd.length) none := ⟨_, rfl⟩
  rw [← hF0]
  obtain ⟨N, hN⟩ : ∃ N : Nat, N = 2 ^ pd.length := ⟨_, rfl⟩
  rw [← hN] at hF0
  have hN256 : 1 ≤ N ∧ N ≤ 256 := by
    have h1 : 2 ^ pd.length ≤ 2 ^ 8 := Nat.pow_le_pow_right (by omega) (by omega)
    have h2 : 0 < 2 ^ pd.length := Nat.two_pow_pos _
    omega
  have hNI : (2 : Int) ^ pd.length = (N : Int) := by rw [hN]; simp
  obtain ⟨res, hres⟩ : ∃ r : Int × ResR, r = optR F0 := ⟨_, rfl⟩
  rw [← hres]
  obtain ⟨n0, ni, nz0, nz1, nz2⟩ := info_parts infoInt
  have NI := Lib.hid (And.intro ni (And.intro nz0 (And.intro nz1 nz2)))
  have H := Lib.hid (And.intro KE (And.intro BT (And.intro KG (And.intro hst (And.intro hLT hL0)))))
  have HR := Lib.hid (And.intro hres hF0)
  have HX := Lib.hid hx
  show Calls Tryz.prog _ #[.agg #[.slice sA cals.length sc, .slice sB R.length sd, .int .i64 most, .slice A L.length c, .slice gA bg.length gc, .slice pA pd.length pc, .slice dA dr.length dc]] w _
  rw [hdr]
  clear hnd
  clear KE BT KG hst hLT hL0 hres hF0 hN ni nz0 nz1 nz2 hx hdr hle
  go_enter Tryz.func27, Tryz.ntmps27
  have hp64 : (pd.length : Int) ≤ 64 := by omega
  have hpl8 : pd.length ≤ 8 := by omega
  go_wp2_with fail
  go_loopg [5, 6] N (fun gas s5 s6 wr => ∃ (k : Nat) (bo : Option ResR) (y : ResM), k ≤ N ∧ k ≤ gas ∧ s6 = .int .i64 ((k : Int) - 1) ∧ ((bo = none ∧ s5 = .bool false) ∨ (bo = some y.r ∧ s5 = .bool true ∧ GoodS ⟨sA, sc, cals, sB, sd, R, most⟩ L y.r.slots ∧ y.r.slots.length < 1000000)) ∧ leastTo P k bo = F0 ∧ IsRes wr y ∧ FreshR (w.heap.size + 3) y ∧ ResRAt wr (w.heap.size + 1 + 1) (.slice y.A y.r.slots.length y.c) (.slice y.mA y.r.moved.length y.mc) (.slice y.lA y.r.left.length y.lc) ∧ SinceOf ((w.alloc (.cells #[.slice sA cals.length sc, .slice sB R.length sd, .int .i64 most, .slice A L.length c, .slice gA bg.length gc, .slice pA pd.length pc, .slice dA L.length dc] 52)).alloc (.cells #[.slice none 0 0, .slice none 0 0, .slice none 0 0] 65)) wr)
  case atStart =>
    refine ⟨N, none, zeroM, Nat.le_refl _, Nat.le_refl _, ?_, .inl ⟨rfl, rfl⟩, HR.out.2.symm, zeroM_is _, zeroM_fresh _, ?_, Sx⟩
    · rfl
    · unfold ResRAt
      exact alloc_at _ _ _ (by simp)
  case round =>
    obtain ⟨k, bo, y, hk, hgas, rfl, hbo, hlt0, hy, hfy, hat, ⟨z, rfl⟩⟩ := hrel
    cases k with
    | zero =>
      have h0 := H.out.2.2.2.2.2 bo
      rw [h0] at hlt0
      obtain ⟨⟨sl, mv, lf⟩, yA, yc, ymA, ymc, ylA, ylc⟩ := y
      simp only at hat
      have a0 := hat.c0
      have a1 := hat.c1
      have a2 := hat.c2
      have hO := hat.old
      have HY := Lib.hid (And.intro hy (And.intro hfy (And.intro hlt0 hat)))
      have hz := z.size
      simp at hz
      clear hy hfy hlt0 h0 hat
      rcases hbo with ⟨rfl, rfl⟩ | ⟨rfl, rfl, -, -⟩
      · have e : res = (31, noRes) := by rw [HR.out.1, ← HY.out.2.2.1]; rfl
        subst e
        go_wp2_with fail
        go_returns
        exact ⟨zeroM, rfl, rfl, zeroM_is _, Sx⟩
      · have e : res = (0, ⟨sl, mv, lf⟩) := by rw [HR.out.1, ← HY.out.2.2.1]; rfl
        subst e
        go_wp2_with fail
        go_returns
        refine ⟨⟨⟨sl, mv, lf⟩, yA, yc, ymA, ymc, ylA, ylc⟩, rfl, rfl, ?_, ?_⟩
        · exact ((HY.out.1.setOther HY.out.2.1 (by omega)).setOther HY.out.2.1 (by omega)).setOther HY.out.2.1 (by omega)
        · exact SinceOf.setCell (SinceOf.setCell (SinceOf.setCell (show SinceOf w z.wd from Sx) (show w.heap.size ≤ w.heap.size + 1 by omega) _) (show w.heap.size ≤ w.heap.size + 1 by omega) _) (show w.heap.size ≤ w.heap.size + 1 by omega) _
    | succ k =>
      have hkN : k < N := by omega
      rw [H.out.2.2.2.2.1 k bo] at hlt0
      rw [show (((k + 1 : Nat) : Int) - 1) = (k : Int) from by omega]
      have hsz := z.size
      simp at hsz
      obtain ⟨⟨sl, mv, lf⟩, yA, yc, ymA, ymc, ylA, ylc⟩ := y
      simp only at hat hbo
      have hatl := hat.lt
      have HY := Lib.hid (And.intro hy (And.intro hfy (And.intro hlt0 hat)))
      clear hy hfy hlt0 hat
      have HBO := Lib.hid hbo
      clear hbo
      go_wp2_with fail
      go_loopg [7, 8] pd.length (fun gas s7 s29 wr => ∃ (i : Nat) (C : Option Addr) (c1 : Nat), i ≤ pd.length ∧ pd.length - i ≤ gas ∧ s7 = .slice C (bitsL i k).length c1 ∧ s29 = .int .i64 i ∧ Owns encN 1 z.wd.heap.size 3 wr C c1 (bitsL i k) ∧ SinceOf z.wd wr)
      case atStart => exact ⟨0, none, 0, by omega, by omega, rfl, rfl, Owns.nil _ _ _ _ _, SinceOf.refl _⟩
      case round =>
        obtain ⟨i, C, c1, hi, hig, rfl, rfl, hC, ⟨z2, rfl⟩⟩ := hrel
        have hz2 := z2.size
        by_cases hilt : i < pd.length
        · have hbs := bitsL_succ i k
          have hbl := bitsL_len i k
          have hi64 : (i : Int) ≤ 64 := by omega
          obtain ⟨bl, hbe⟩ : ∃ bl, bl = bitsL i k := ⟨_, rfl⟩
          rw [← hbe] at hC hbs hbl ⊢
          have hb0 : (k : Int) / 2 ^ i = ((k / 2 ^ i : Nat) : Int) := by simp
          have hbit : ((k : Int) / 2 ^ i).tmod 2 = ((k / 2 ^ i % 2 : Nat) : Int) := by rw [hb0]; first | rfl | (rw [Int.tmod_eq_emod_of_nonneg (by omega)]; omega)
          have hbit2 : ((k : Int) / 2 ^ i) % 2 = ((k / 2 ^ i % 2 : Nat) : Int) := by rw [hb0]; omega
          clear hb0
          by_cases ht : k / 2 ^ i % 2 = 1
          · rw [ht] at hbit hbit2
            rw [if_pos ht] at hbs
            have HC := Lib.hid (And.intro hC hbs)
            clear hC hbs ht hbe
            go_wp2_with (at_builtin; refine wpList_append_row rfl (.tmp 37) (.tmp 39) 57 rfl encN_len (by omega) encN_one n0 _ 8 Tryz.underlying57 NI.out.1 NI.out.2.1 NI.out.2.2.1 NI.out.2.2.2 rfl (l := bl) (A := C) (c := c1) (base := z.wd.heap.size) rfl (HC.out.1.of Sx) (m := [(i : Int)]) rfl (rowN_at _ _ _ _ (by first | rfl | simp)) (by unfold maxLen; simp; omega) (by simp; omega) (by first | omega | (simp; done) | (simp; omega)) ?_; intro E4 f4 w5 hown4 hgr4 hbl4)
            go_roundg (pd.length - (i + 1))
            case measure => omega
            case rel =>
              refine ⟨i + 1, E4, f4, hilt, Nat.le_refl _, by rw [HC.out.2, List.length_append]; rfl, by go_num, by rw [HC.out.2]; exact hown4, ?_⟩
              exact SinceOf.grown Sx hgr4 (fun q hq => (HC.out.1.below q hq).1)
          · rw [show k / 2 ^ i % 2 = 0 from by omega] at hbit hbit2
            rw [if_neg ht] at hbs
            have HC := Lib.hid (And.intro hC hbs)
            clear hC hbs ht hbe
            go_wp2_with fail
            go_roundg (pd.length - (i + 1))
            case measure => omega
            case rel => exact ⟨i + 1, C, c1, hilt, Nat.le_refl _, by rw [HC.out.2], by go_num, by rw [HC.out.2]; exact HC.out.1.of Sx, Sx⟩
        · have hin : i = pd.length := by omega
          rw [hin] at hC ⊢
          have hkl := bitsL_len pd.length k
          have hst := H.out.2.2.2.1 bo k
          obtain ⟨kp, hkp⟩ : ∃ kp, kp = bitsL pd.length k := ⟨_, rfl⟩
          rw [← hkp] at hC hkl hst ⊢
          have KE2 := fun W hW h1 => H.out.1 C c1 kp W hW h1 (by omega)
          have KG2 := H.out.2.2.1 kp
          obtain ⟨⟨ke, kr⟩, hke⟩ : ∃ q, q = keepV P kp := ⟨_, rfl⟩
          rw [← hke] at KE2 KG2 hst
          simp only at KE2 KG2 hst
          have HC := Lib.hid (hC.isRow encN_len)
          have HST := Lib.hid (And.intro hst (And.intro KG2 (And.intro hke hkp)))
          clear hC hin hst KG2 hke hkp
          go_wp2_with fail
          refine (KE2 _ Sx (HC.out.of Sx)).mono ?_
          rintro e _ ⟨⟨⟨sl1, mv1, lf1⟩, xA, xc, xmA, xmc, xlA, xlc⟩, rfl, hy1, hI1, hF1, ⟨z3, rfl⟩⟩
          subst hy1
          have hz3 := z3.size
          have HI1 := Lib.hid (And.intro hI1 hF1)
          clear hI1 hF1 KE2
          by_cases hk0 : ke = 0
          · subst hk0
            have hKG := HST.out.2.1 rfl
            have hHS := HST.out.1
            rw [if_pos rfl] at hHS
            have HKG := Lib.hid (And.intro hKG hHS)
            clear hKG hHS
            rcases HBO.out with ⟨rfl, rfl⟩ | ⟨rfl, rfl, hg0, hl0⟩
            · have HF := Lib.hid (show leastTo P k (some ⟨sl1, mv1, lf1⟩) = F0 by have := HY.out.2.2.1; rw [HKG.out.2] at this; exact this)
              have hat2 := HY.out.2.2.2.of (show SinceOf z.wd (z3.wd.alloc (.cells #[.slice xA sl1.length xc, .slice xmA mv1.length xmc, .slice xlA lf1.length xlc] 65)) from Sx)
              have a0 := hat2.c0
              have a1 := hat2.c1
              have a2 := hat2.c2
              have b0 := hat2.free 0
              have b1 := hat2.free 1
              have b2 := hat2.free 2
              have hO2 := hat2.old
              go_wp2_with fail
              go_roundg k
              case measure => omega
              case rel =>
                refine ⟨k, some ⟨sl1, mv1, lf1⟩, ⟨⟨sl1, mv1, lf1⟩, xA, xc, xmA, xmc, xlA, xlc⟩, by omega, Nat.le_refl _, by go_num, .inr ⟨rfl, rfl, HKG.out.1.2.1, by have := HKG.out.1.2.2; show sl1.length < 1000000; (try simp only at this); omega⟩, HF.out, ?_, ?_, ?_, ?_⟩
                · exact ((((HI1.out.1.of Sx).setOther HI1.out.2 (by first | omega | (simp; omega))).setOther HI1.out.2 (by first | omega | (simp; omega))).setOther HI1.out.2 (by first | omega | (simp; omega)))
                · exact HI1.out.2.le (by omega)
                · exact ((hat2.set0 _).set1 _).set2 _
                · exact SinceOf.setCell (SinceOf.setCell (SinceOf.setCell (show SinceOf ((w.alloc (.cells #[.slice sA cals.length sc, .slice sB R.length sd, .int .i64 most, .slice A L.length c, .slice gA bg.length gc, .slice pA pd.length pc, .slice dA L.length dc] 52)).alloc (.cells #[.slice none 0 0, .slice none 0 0, .slice none 0 0] 65)) (z3.wd.alloc (.cells #[.slice xA sl1.length xc, .slice xmA mv1.length xmc, .slice xlA lf1.length xlc] 65)) from Sx) (by first | omega | (simp; done) | (simp; omega)) _) (by first | omega | (simp; done) | (simp; omega)) _) (by first | omega | (simp; done) | (simp; omega)) _
            · have BT2 := fun W (hW : SinceOf w W) h1 h2 => H.out.2.1 ⟨⟨sl1, mv1, lf1⟩, xA, xc, xmA, xmc, xlA, xlc⟩ ⟨⟨sl, mv, lf⟩, yA, yc, ymA, ymc, ylA, ylc⟩ W hW h1 h2 HKG.out.1.1 HKG.out.1.2.1 hg0 (by have := HKG.out.1.2.2; show sl1.length < 1000000; (try simp only at this); omega) hl0
              have hss := HKG.out.2
              simp only at BT2 hss
              have hat1 := HY.out.2.2.2.of (show SinceOf z.wd z3.wd from Sx)
              have a0 := hat1.c0
              have a1 := hat1.c1
              have a2 := hat1.c2
              have hO1 := hat1.old
              obtain ⟨bv, hbv⟩ : ∃ bv, bv = betterB L ⟨sl1, mv1, lf1⟩ ⟨sl, mv, lf⟩ := ⟨_, rfl⟩
              rw [← hbv] at BT2 hss
              have HG := Lib.hid (And.intro hg0 (And.intro hl0 hbv))
              clear hbv hg0
              cases bv
              · have HF := Lib.hid (show leastTo P k (some ⟨sl, mv, lf⟩) = F0 by have := HY.out.2.2.1; rw [hss] at this; exact this)
                clear hss
                go_wp2_with (go_at_call 61; refine (BT2 _ Sx (HI1.out.1.of Sx) (HY.out.1.of Sx)).calls.mono ?_; rintro e _ ⟨rfl, z4, rfl⟩)
                go_roundg k
                case measure => omega
                case rel => refine ⟨k, some ⟨sl, mv, lf⟩, ⟨⟨sl, mv, lf⟩, yA, yc, ymA, ymc, ylA, ylc⟩, by omega, Nat.le_refl _, by go_num, .inr ⟨rfl, rfl, HG.out.1, HG.out.2.1⟩, HF.out, HY.out.1.of Sx, HY.out.2.1, HY.out.2.2.2.of Sx, Sx⟩
              · have HF := Lib.hid (show leastTo P k (some ⟨sl1, mv1, lf1⟩) = F0 by have := HY.out.2.2.1; rw [hss] at this; exact this)
                clear hss
                go_wp2_with (go_at_call 61; refine (BT2 _ Sx (HI1.out.1.of Sx) (HY.out.1.of Sx)).calls.mono ?_; rintro e _ ⟨rfl, z4, rfl⟩; have hat2 := HY.out.2.2.2.of (show SinceOf z.wd z4.wd from Sx); have e0 := hat2.c0; have e1 := hat2.c1; have e2 := hat2.c2; have b0 := hat2.free 0; have b1 := hat2.free 1; have b2 := hat2.free 2; have hO2 := hat2.old)
                go_roundg k
                case measure => omega
                case rel =>
                  refine ⟨k, some ⟨sl1, mv1, lf1⟩, ⟨⟨sl1, mv1, lf1⟩, xA, xc, xmA, xmc, xlA, xlc⟩, by omega, Nat.le_refl _, by go_num, .inr ⟨rfl, rfl, HKG.out.1.2.1, by have := HKG.out.1.2.2; show sl1.length < 1000000; (try simp only at this); omega⟩, HF.out, ?_, ?_, ?_, ?_⟩
                  · exact ((((HI1.out.1.of Sx).setOther HI1.out.2 (by first | omega | (simp; omega))).setOther HI1.out.2 (by first | omega | (simp; omega))).setOther HI1.out.2 (by first | omega | (simp; omega)))
                  · exact HI1.out.2.le (by omega)
                  · exact ((hat2.set0 _).set1 _).set2 _
                  · exact SinceOf.setCell (SinceOf.setCell (SinceOf.setCell (show SinceOf ((w.alloc (.cells #[.slice sA cals.length sc, .slice sB R.length sd, .int .i64 most, .slice A L.length c, .slice gA bg.length gc, .slice pA pd.length pc, .slice dA L.length dc] 52)).alloc (.cells #[.slice none 0 0, .slice none 0 0, .slice none 0 0] 65)) z4.wd from Sx) (by first | omega | (simp; done) | (simp; omega)) _) (by first | omega | (simp; done) | (simp; omega)) _) (by first | omega | (simp; done) | (simp; omega)) _
          · have hk1 : (ke == 0) = false := by simpa using hk0
            have hHS := HST.out.1
            rw [if_neg hk0] at hHS
            have HF := Lib.hid (show leastTo P k bo = F0 by have := HY.out.2.2.1; rw [hHS] at this; exact this)
            clear hHS hk0
            rcases HBO.out with ⟨rfl, rfl⟩ | ⟨rfl, rfl, hg0, hl0⟩
            · go_wp2_with fail
              go_roundg k
              case measure => omega
              case rel => refine ⟨k, none, ⟨⟨sl, mv, lf⟩, yA, yc, ymA, ymc, ylA, ylc⟩, by omega, Nat.le_refl _, by go_num, .inl ⟨rfl, rfl⟩, HF.out, HY.out.1.of Sx, HY.out.2.1, HY.out.2.2.2.of Sx, Sx⟩
            · have HG := Lib.hid (And.intro hg0 hl0)
              clear hg0
              go_wp2_with fail
              go_roundg k
              case measure => omega
              case rel => refine ⟨k, some ⟨sl, mv, lf⟩, ⟨⟨sl, mv, lf⟩, yA, yc, ymA, ymc, ylA, ylc⟩, by omega, Nat.le_refl _, by go_num, .inr ⟨rfl, rfl, HG.out.1, HG.out.2⟩, HF.out, HY.out.1.of Sx, HY.out.2.1, HY.out.2.2.2.of Sx, Sx⟩
end Go.Proofs.YtpaojgfmffkodaaGreat
