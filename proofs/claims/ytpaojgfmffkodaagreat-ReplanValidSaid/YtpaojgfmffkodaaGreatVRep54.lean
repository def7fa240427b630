/- Layer 54: ReplanValid's walk. -/
import Derived.Test.YtpaojgfmffkodaaGreatVRep50
import Derived.Test.YtpaojgfmffkodaaGreatVRepP12
import Derived.Test.YtpaojgfmffkodaaGreatVRep11
import Derived.Test.YtpaojgfmffkodaaGreatVRep44
namespace Go.Proofs.YtpaojgfmffkodaaGreat
set_option linter.unusedVariables false
set_option linter.unusedSimpArgs false
open Go.RowKit Go.Sort
attribute [local go_sem ↓] Go.wp_at_zero Go.wp_at_succ

theorem cntL_len (n : Nat) (l : List Int) : (cntL n l).length = n := by unfold cntL; simp
theorem cntL_at {n : Nat} {l : List Int} {i : Nat} (h : i < (cntL n l).length) : (cntL n l)[i] = ((l.count (i : Int) : Nat) : Int) := by
  have h2 : i < (List.range n).length := by rw [List.length_range]; rw [cntL_len] at h; exact h
  exact (List.getElem_map (fun (i : Nat) => ((l.count (i : Int) : Nat) : Int)) (h := by simpa using h2)).trans (by rw [List.getElem_range])
theorem cntL_snoc {n : Nat} {l : List Int} {j : Nat} (h : j < n) : (cntL n l).set j (((l.count (j : Int) : Nat) : Int) + 1) = cntL n (l ++ [(j : Int)]) := by
  refine List.ext_getElem (by rw [List.length_set, cntL_len, cntL_len]) fun i h1 h2 => ?_
  rw [List.getElem_set, cntL_at h2, List.count_append, List.count_singleton]
  by_cases e : j = i
  · subst e
    simp
  · rw [if_neg e, cntL_at (by rw [cntL_len] at h2 ⊢; exact h2)]
    have : ((j : Int) == (i : Int)) = false := by simp; omega
    rw [this]
    simp
theorem cntL_zero (n : Nat) : List.replicate n (0 : Int) = cntL n [] := by
  refine List.ext_getElem (by rw [List.length_replicate, cntL_len]) fun i h1 h2 => ?_
  rw [cntL_at h2]
  simp
def oldE (now : Int) (s p : SlotR) : Bool := (p.job == s.job) && ((p.mach == s.mach) && ((p.start == s.start) && decide (p.start < now)))
/-- The counters in memory, one of them raised. -/
theorem cnt_up {base n c q : Nat} {l : List Int} {w : World} (h : Owns encN 1 base 3 w (some ⟨q, 0, none⟩) c (cntL n l)) {j : Nat} (hj : j < n) :
    Owns encN 1 base 3 (w.setCell ⟨q, j, none⟩ (.int .i64 (((l.count (j : Int) : Nat) : Int) + 1))) (some ⟨q, 0, none⟩) c (cntL n (l ++ [(j : Int)])) := by
  have hj2 : j < (cntL n l).length := by rw [cntL_len]; exact hj
  have h1 := Owns.putAt encN_len (by omega) h j hj2 0 (by omega) (.int .i64 (((l.count (j : Int) : Nat) : Int) + 1)) (((l.count (j : Int) : Nat) : Int) + 1) rfl
  rw [cntL_snoc hj] at h1
  simpa using h1
set_option maxRecDepth 100000 in
set_option maxHeartbeats 16000000 in
theorem valid_walk (aw : ∀ w : World, Yields Tryz.prog 9 #[] w (.bool true)) (x : CaseR) (w : World) (hx : IsCase w x) :
    Yields Tryz.prog 6 #[caseV x] w (.bool true) := by
  apply Yields.ret
  have AP := fun W (hW : SinceOf w W) => apply54_any x W (hx.of hW)
  have VL : ∀ y, CaseSt x y → ValidL x.now x.plan (erSt y) (replanV (erSt y)).2 := fun y hy => by
    obtain ⟨x1, b, ha⟩ := hy.applied
    exact valid_law ha
  have LE := fun y (h : CaseSt x y) => h.lens
  have OK := fun y (h : CaseSt x y) => replan_ok h.ok
  generalize CaseSt x = cs at *
  obtain ⟨⟨sA, sc, cals, sB, sd, R, most⟩, A, c, L, B, d, plan, now, E, ec, evs⟩ := x
  simp only at AP VL LE
  have H := Lib.hid hx
  have hpl := hx.len
  simp only at hpl
  have HL := Lib.hid VL
  obtain ⟨n0, ni, nz0, nz1, nz2⟩ := info_parts infoInt
  have NI := Lib.hid (And.intro ni (And.intro nz0 (And.intro nz1 nz2)))
  clear hx VL ni nz0 nz1 nz2
  go_enter Tryz.func6, Tryz.ntmps6
  go_wp2_with fail
  refine (aw _).calls.mono ?_
  rintro e _ ⟨rfl, x1, rfl⟩
  go_wp2_with fail
  refine (AP _ Sx).mono ?_
  rintro e _ ⟨b, y, rfl, hst, hb, ⟨x2, rfl⟩⟩
  clear AP aw
  cases b
  · clear hb hst
    obtain ⟨⟨ysA, ysc, ycals, ysB, ysd, yR, ymost⟩, yA, yc, yL, ygA, ygc, ybg, ypA, ypc, ypd, ydA, ydc, ydr⟩ := y
    go_wp2_with fail
    go_returns
    exact ⟨rfl, Sx⟩
  have hcs := hb rfl
  obtain ⟨l1, l2, l3, l4, l5, l6⟩ := LE y hcs
  have RP := fun W (hW : SinceOf x2.wd W) => replan_any y W (hst.of hW) l6 (by omega) (by omega) (by omega)
  rw [OK y hcs] at RP
  have HY := HL.out y hcs
  have hv := HY.v
  have e0 : validT (erSt y).s (erSt y).L (replanV (erSt y)).2.slots = validT y.s y.L (replanV (erSt y)).2.slots := validT_er _ _ _
  rw [e0] at hv
  have hn1 : ∀ s ∈ (replanV (erSt y)).2.slots, 0 ≤ s.job ∧ s.job < y.L.length := fun s hs => by
    have := HY.named s hs
    rw [show (erSt y).L.length = y.L.length from erL_length y.L] at this
    exact this
  have hn2 : ∀ s ∈ (replanV (erSt y)).2.slots, s.start < now → (plan.any (oldE now s)) = true := fun s hs hlt => by
    obtain ⟨p, hp, h1, h2, h3, h4⟩ := HY.old s hs hlt
    rw [List.any_eq_true]
    refine ⟨p, hp, ?_⟩
    unfold oldE
    simp [h1, h2, h3]
    omega
  have hn3 : ∀ p ∈ plan, (0 ≤ p.job ∧ p.job < y.L.length) ∧ (p.start < now → ((replanV (erSt y)).2.slots.map (·.job)).count p.job = 1) := fun p hp => by
    have := HY.plan p hp
    rw [show (erSt y).L.length = y.L.length from erL_length y.L] at this
    exact this
  have hn4 : ∀ j ∈ (replanV (erSt y)).2.left, 0 ≤ j ∧ j < y.L.length := fun j hj => by
    have := HY.left j hj
    rw [show (erSt y).L.length = y.L.length from erL_length y.L] at this
    exact this
  have hn5 : ∀ i : Nat, i < y.L.length → ((replanV (erSt y)).2.slots.map (·.job) ++ (replanV (erSt y)).2.left).count (i : Int) ≤ 1 ∧ y.dr.getD i false = decide (((replanV (erSt y)).2.slots.map (·.job) ++ (replanV (erSt y)).2.left).count (i : Int) = 0) := fun i hi => HY.all i (by rw [show (erSt y).L.length = y.L.length from erL_length y.L]; exact hi)
  have hbig : (replanV (erSt y)).2.slots.length < 1073741824 := by
    have h1 := (keep_good (x := y) (kept := (chosenTo (erSt y) (erSt y).pd.length).2) (OK y hcs)).2.2
    have h2 := (chosen_len (erSt y) (erSt y).pd.length).2
    have h3 : (erSt y).pd.length = y.pd.length := rfl
    have h4 : (replanV (erSt y)).2.slots.length ≤ y.bg.length + (chosenTo (erSt y) (erSt y).pd.length).2.length + y.L.length := h1
    omega
  have hlb := (replan_lens y).left
  obtain ⟨rv, hrv⟩ : ∃ r, r = (replanV (erSt y)).2 := ⟨_, rfl⟩
  rw [← hrv] at RP hv hn1 hn2 hn3 hn4 hn5 hbig hlb
  have SH := hst.shop
  have JB := hst.jobs
  have DR := hst.dr
  have VA := fun (B' : Option Addr) (d' : Nat) W (hW : SinceOf x2.wd W) (h1 : IsSlots W B' d' rv.slots) (h2 : rv.slots.length < 1073741824) (h3 : rv.slots.length ≤ d') => valid52_any y.s y.A y.c y.L B' d' rv.slots W (SH.of hW) (JB.of hW) h1 (by omega) h3
  obtain ⟨vt, hvt⟩ : ∃ t, t = validT y.s y.L rv.slots := ⟨_, rfl⟩
  rw [← hvt] at VA hv
  clear hb hst LE OK HL hcs hrv HY e0 SH JB hvt
  obtain ⟨v1, v2⟩ := vt
  simp only at hv
  subst hv
  obtain ⟨⟨ysA, ysc, ycals, ysB, ysd, yR, ymost⟩, yA, yc, yL, ygA, ygc, ybg, ypA, ypc, ypd, ydA, ydc, ydr⟩ := y
  obtain ⟨rs, rm, rl⟩ := rv
  simp only at hn1 hn2 hn3 hn4 hn5 l3 l4 l5 l6 DR VA hbig hlb
  have hsv : stateV ⟨⟨ysA, ysc, ycals, ysB, ysd, yR, ymost⟩, yA, yc, yL, ygA, ygc, ybg, ypA, ypc, ypd, ydA, ydc, ydr⟩ = .agg #[.slice ysA ycals.length ysc, .slice ysB yR.length ysd, .int .i64 ymost, .slice yA yL.length yc, .slice ygA ybg.length ygc, .slice ypA ypd.length ypc, .slice ydA yL.length ydc] := by simp only [stateV, l6]
  rw [hsv] at RP
  rw [hsv]
  clear hsv
  have HN := Lib.hid (And.intro hn1 (And.intro hn2 (And.intro hn3 (And.intro hn4 hn5))))
  have HD := Lib.hid (And.intro DR l6)
  clear hn1 hn2 hn3 hn4 hn5 DR
  go_wp2_with fail
  refine (RP _ Sx).mono ?_
  rintro e _ ⟨⟨⟨rs', rm', rl'⟩, rA, rc, rmA, rmc, rlA, rlc⟩, rfl, hr, hres, ⟨x3, rfl⟩⟩
  simp only at hr
  injection hr with hr1 hr2 hr3
  subst hr1 hr2 hr3
  have hrs := hres.slots
  have hrl := hres.left
  have hcap := hres.cap
  simp only at hrs hrl hcap
  have HR := Lib.hid (And.intro hrs hrl)
  have VB := fun W (hW : SinceOf x3.wd W) => VA rA rc W ((show SinceOf x2.wd x3.wd from Sx).trans hW) (hrs.of hW) hbig hcap
  clear RP hres hrs hrl VA
  have hx3 := x3.size
  (try simp at hx3)
  go_wp2_with fail
  refine (VB _ Sx).calls.mono ?_
  rintro e _ ⟨rfl, x4, rfl⟩
  clear VB
  have hx4 := x4.size
  (try simp at hx4)
  go_wp2_with (refine wpList_make_owns _ rfl (.tmp 51) (.tmp 51) 57 rfl encN_len 0 n0 _ 8 Tryz.underlying57 NI.out.1 NI.out.2.1 NI.out.2.2.1 NI.out.2.2.2 rfl (by omega) (base := x4.wd.heap.size) yL.length yL.length rfl rfl (Nat.le_refl _) (by omega) (by unfold maxLen; omega) (by simp) ?_; intro cs0 hown0)
  have hown0' := hown0
  rw [cntL_zero] at hown0'
  have H0 := Lib.hid hown0'
  clear hown0 hown0'
  go_wp2_with fail
  go_loopg [56] rs'.length (fun gas s56 wr => ∃ k : Nat, k ≤ rs'.length ∧ rs'.length - k ≤ gas ∧ s56 = .int .i64 k ∧ Owns encN 1 x4.wd.heap.size 3 wr (some ⟨x4.wd.heap.size, 0, none⟩) yL.length (cntL yL.length ((rs'.take k).map (·.job))) ∧ SinceOf x4.wd wr)
  case atStart => exact ⟨0, by omega, by omega, rfl, H0.out, Sx⟩
  case round =>
    obtain ⟨k, hk, hgas, rfl, hown, ⟨z, rfl⟩⟩ := hrel
    by_cases hlt : k < rs'.length
    · obtain ⟨gr, or, rfl, hrr⟩ := (HR.out.1.of (show SinceOf x3.wd z.wd from Sx)).at_ (by omega)
      have hOr := hrr.there
      have t0 := hrr.s0 k hlt
      have t1 := hrr.s1 k hlt
      have t2 := hrr.s2 k hlt
      have t3 := hrr.s3 k hlt
      have hnm := HN.out.1 _ (List.getElem_mem hlt)
      have hol := HN.out.2.1 _ (List.getElem_mem hlt)
      have htk : (rs'.take (k + 1)).map (·.job) = (rs'.take k).map (·.job) ++ [rs'[k].job] := by rw [List.take_succ_eq_append_getElem hlt, List.map_append]; rfl
      obtain ⟨⟨sj, sm, ss, se⟩, hs⟩ : ∃ y, y = rs'[k] := ⟨_, rfl⟩
      rw [← hs] at t0 t1 t2 t3 hnm hol htk
      simp only at t0 t1 t2 t3 hnm hol htk
      obtain ⟨j, rfl⟩ : ∃ j : Nat, sj = j := ⟨sj.toNat, by omega⟩
      have hj : j < yL.length := by omega
      have hj3 : (j : Int) < (yL.length : Int) := by omega
      obtain ⟨hq0, hlive⟩ := hown.live0 encN_len
      have hOc := hlive.row.there
      have c0 := hlive.row.n0 j (by rw [cntL_len]; exact hj)
      have f0 := hlive.free j (by rw [cntL_len]; omega)
      rw [cntL_at] at c0
      simp only [Nat.zero_add] at c0 f0
      have hcb : ((rs'.take k).map (·.job)).count (j : Int) ≤ k := by
        have := List.count_le_length (a := (j : Int)) (l := (rs'.take k).map (·.job))
        rw [List.length_map, List.length_take] at this
        omega
      obtain ⟨cj, hcj⟩ : ∃ cj : Nat, cj = ((rs'.take k).map (·.job)).count (j : Int) := ⟨_, rfl⟩
      rw [← hcj] at c0 hcb
      have hup := cnt_up hown hj
      rw [← htk, ← hcj] at hup
      have hzx : x4.wd.heap.size < z.wd.heap.size := hOc.elim fun t => t.lt
      have HK := Lib.hid (And.intro hup hol)
      clear hrr hs hown hlive hol htk hcj hup hnm hq0
      go_wp2_with fail
      go_loopg [12, 80] plan.length (fun gas s12 s80 wr => ∃ (i : Nat) (acc : Bool), i ≤ plan.length ∧ plan.length - i ≤ gas ∧ s12 = .bool acc ∧ s80 = .int .i64 i ∧ (ss < now → (acc || (plan.drop i).any (oldE now ⟨j, sm, ss, se⟩)) = true) ∧ wr.heap[z.wd.heap.size]? = some (Obj.cells #[.int .i64 j, .int .i64 sm, .int .i64 ss, .int .i64 se] 76 (0, 0)) ∧ Owns encN 1 x4.wd.heap.size 3 wr (some ⟨x4.wd.heap.size, 0, none⟩) yL.length (cntL yL.length ((rs'.take (k + 1)).map (·.job))) ∧ SinceOf x4.wd wr)
      case atStart => exact ⟨0, false, by omega, by omega, rfl, rfl, by simpa using HK.out.2, alloc_at _ _ _ (by simp), HK.out.1.alloc _, Sx⟩
      case round =>
        obtain ⟨i, acc, hi, hgas2, rfl, rfl, hany, hs1, hown1, ⟨z2, rfl⟩⟩ := hrel
        have v0 := cell_of (i := 0) hs1 rfl
        have v1 := cell_of (i := 1) hs1 rfl
        have v2 := cell_of (i := 2) hs1 rfl
        have hO1 : Nonempty (Old z2.wd z.wd.heap.size) := ⟨⟨heap_lt hs1⟩⟩
        have HW1 := Lib.hid (And.intro hs1 hown1)
        clear hs1 hown1
        by_cases hlt2 : i < plan.length
        · obtain ⟨gp, op, rfl, hrp⟩ := (H.out.plan.of (show SinceOf w z2.wd from Sx)).at_ (by simp only; omega)
          have hOp := hrp.there
          have s0 := hrp.s0 i hlt2
          have s1 := hrp.s1 i hlt2
          have s2 := hrp.s2 i hlt2
          have s3 := hrp.s3 i hlt2
          simp only [List.drop_eq_getElem_cons hlt2, List.any_cons] at hany
          obtain ⟨⟨pj, pm, ps, pe⟩, hy⟩ : ∃ y, y = plan[i] := ⟨_, rfl⟩
          rw [← hy] at s0 s1 s2 s3 hany
          simp only at s0 s1 s2 s3
          rw [show oldE now ⟨(j : Int), sm, ss, se⟩ ⟨pj, pm, ps, pe⟩ = ((pj == (j : Int)) && ((pm == sm) && ((ps == ss) && decide (ps < now)))) from rfl] at hany
          clear hrp hy
          cases acc
          · cases d1 : (pj == (j : Int))
            · rw [d1] at hany
              have HA2 := Lib.hid hany
              clear hany
              go_wp2_with fail
              go_roundg (plan.length - (i + 1))
              case measure => omega
              case rel => exact ⟨i + 1, false, hlt2, Nat.le_refl _, rfl, by go_num, by simpa using HA2.out, heapAt HW1.out.1 Sx, HW1.out.2.of Sx, Sx⟩
            · cases d2 : (pm == sm)
              · rw [d1, d2] at hany
                have HA2 := Lib.hid hany
                clear hany
                go_wp2_with fail
                go_roundg (plan.length - (i + 1))
                case measure => omega
                case rel => exact ⟨i + 1, false, hlt2, Nat.le_refl _, rfl, by go_num, by simpa using HA2.out, heapAt HW1.out.1 Sx, HW1.out.2.of Sx, Sx⟩
              · cases d3 : (ps == ss)
                · rw [d1, d2, d3] at hany
                  have HA2 := Lib.hid hany
                  clear hany
                  go_wp2_with fail
                  go_roundg (plan.length - (i + 1))
                  case measure => omega
                  case rel => exact ⟨i + 1, false, hlt2, Nat.le_refl _, rfl, by go_num, by simpa using HA2.out, heapAt HW1.out.1 Sx, HW1.out.2.of Sx, Sx⟩
                · cases d4 : decide (ps < now)
                  · rw [d1, d2, d3, d4] at hany
                    have HA2 := Lib.hid hany
                    clear hany
                    go_wp2_with fail
                    go_roundg (plan.length - (i + 1))
                    case measure => omega
                    case rel => exact ⟨i + 1, false, hlt2, Nat.le_refl _, rfl, by go_num, by simpa using HA2.out, heapAt HW1.out.1 Sx, HW1.out.2.of Sx, Sx⟩
                  · clear hany
                    go_wp2_with fail
                    go_roundg (plan.length - (i + 1))
                    case measure => omega
                    case rel => exact ⟨i + 1, true, hlt2, Nat.le_refl _, rfl, by go_num, by simp, heapAt HW1.out.1 Sx, HW1.out.2.of Sx, Sx⟩
          · clear hany
            go_wp2_with fail
            go_roundg (plan.length - (i + 1))
            case measure => omega
            case rel => exact ⟨i + 1, true, hlt2, Nat.le_refl _, rfl, by go_num, by simp, heapAt HW1.out.1 Sx, HW1.out.2.of Sx, Sx⟩
        · have hi2 : i = plan.length := by omega
          rw [hi2, List.drop_length, List.any_nil, Bool.or_false] at hany
          clear hi2
          by_cases hss : ss < now
          · obtain rfl : acc = true := hany hss
            clear hany
            go_wp2_with fail
            go_roundg (rs'.length - (k + 1))
            case measure => omega
            case rel => exact ⟨k + 1, hlt, Nat.le_refl _, by go_num, HW1.out.2, Sx⟩
          · clear hany
            go_wp2_with fail
            go_roundg (rs'.length - (k + 1))
            case measure => omega
            case rel => exact ⟨k + 1, hlt, Nat.le_refl _, by go_num, HW1.out.2, Sx⟩
    · have hk2 : k = rs'.length := by omega
      rw [hk2, List.take_length] at hown
      have HC := Lib.hid hown
      clear hown hk2
      go_wp2_with fail
      go_loopg [127] plan.length (fun gas s127 wr => ∃ i : Nat, i ≤ plan.length ∧ plan.length - i ≤ gas ∧ s127 = .int .i64 i ∧ Owns encN 1 x4.wd.heap.size 3 wr (some ⟨x4.wd.heap.size, 0, none⟩) yL.length (cntL yL.length (rs'.map (·.job))) ∧ SinceOf x4.wd wr)
      case atStart => exact ⟨0, by omega, by omega, rfl, HC.out, Sx⟩
      case round =>
        obtain ⟨i, hi, hgas2, rfl, hown, ⟨z2, rfl⟩⟩ := hrel
        by_cases hlt2 : i < plan.length
        · obtain ⟨gp, op, rfl, hrp⟩ := (H.out.plan.of (show SinceOf w z2.wd from Sx)).at_ (by simp only; omega)
          have hOp := hrp.there
          have s0 := hrp.s0 i hlt2
          have s1 := hrp.s1 i hlt2
          have s2 := hrp.s2 i hlt2
          have s3 := hrp.s3 i hlt2
          have hpn := HN.out.2.2.1 _ (List.getElem_mem hlt2)
          obtain ⟨⟨pj, pm, ps, pe⟩, hy⟩ : ∃ y, y = plan[i] := ⟨_, rfl⟩
          rw [← hy] at s0 s1 s2 s3 hpn
          simp only at s0 s1 s2 s3 hpn
          obtain ⟨⟨hp0, hp1⟩, hp2⟩ := hpn
          by_cases hps : ps < now
          · have hcnt := hp2 hps
            obtain ⟨j, rfl⟩ : ∃ j : Nat, pj = j := ⟨pj.toNat, by omega⟩
            have hj : j < yL.length := by omega
            have hj3 : (j : Int) < (yL.length : Int) := by omega
            obtain ⟨hq0, hlive⟩ := hown.live0 encN_len
            have hOc := hlive.row.there
            have c0 := hlive.row.n0 j (by rw [cntL_len]; exact hj)
            rw [cntL_at, hcnt] at c0
            simp only [Nat.zero_add] at c0
            have HO := Lib.hid hown
            clear hown hlive hcnt hp2 hrp hy hp0 hp1 hq0
            go_wp2_with fail
            go_roundg (plan.length - (i + 1))
            case measure => omega
            case rel => exact ⟨i + 1, hlt2, Nat.le_refl _, by go_num, HO.out.of Sx, Sx⟩
          · have HO := Lib.hid hown
            clear hown hp2 hrp hy hp0 hp1
            go_wp2_with fail
            go_roundg (plan.length - (i + 1))
            case measure => omega
            case rel => exact ⟨i + 1, hlt2, Nat.le_refl _, by go_num, HO.out.of Sx, Sx⟩
        · have HC2 := Lib.hid hown
          clear hown
          go_wp2_with fail
          go_loopg [148] rl'.length (fun gas s148 wr => ∃ m : Nat, m ≤ rl'.length ∧ rl'.length - m ≤ gas ∧ s148 = .int .i64 m ∧ Owns encN 1 x4.wd.heap.size 3 wr (some ⟨x4.wd.heap.size, 0, none⟩) yL.length (cntL yL.length (rs'.map (·.job) ++ rl'.take m)) ∧ SinceOf x4.wd wr)
          case atStart => exact ⟨0, by omega, by omega, rfl, by rw [List.take_zero, List.append_nil]; exact HC2.out, Sx⟩
          case round =>
            obtain ⟨m, hm, hgas3, rfl, hown, ⟨z3, rfl⟩⟩ := hrel
            by_cases hlt3 : m < rl'.length
            · obtain ⟨gl, ol, rfl, hrl⟩ := (HR.out.2.of (show SinceOf x3.wd z3.wd from Sx)).at_ (by omega)
              have hOl := hrl.there
              have i0 := hrl.n0 m hlt3
              have hnm := HN.out.2.2.2.1 _ (List.getElem_mem hlt3)
              have htk : rs'.map (·.job) ++ rl'.take (m + 1) = (rs'.map (·.job) ++ rl'.take m) ++ [rl'[m]] := by rw [List.take_succ_eq_append_getElem hlt3, List.append_assoc]
              obtain ⟨sj, hs⟩ : ∃ y, y = rl'[m] := ⟨_, rfl⟩
              rw [← hs] at i0 hnm htk
              obtain ⟨j, rfl⟩ : ∃ j : Nat, sj = j := ⟨sj.toNat, by omega⟩
              have hj : j < yL.length := by omega
              have hj3 : (j : Int) < (yL.length : Int) := by omega
              obtain ⟨hq0, hlive⟩ := hown.live0 encN_len
              have hOc := hlive.row.there
              have c0 := hlive.row.n0 j (by rw [cntL_len]; exact hj)
              have f0 := hlive.free j (by rw [cntL_len]; omega)
              rw [cntL_at] at c0
              simp only [Nat.zero_add] at c0 f0
              have hcb : (rs'.map (·.job) ++ rl'.take m).count (j : Int) ≤ 1 := Nat.le_trans (List.Sublist.count_le _ ((List.Sublist.refl _).append (List.take_sublist _ _))) (HN.out.2.2.2.2 j hj).1
              obtain ⟨cj, hcj⟩ : ∃ cj : Nat, cj = (rs'.map (·.job) ++ rl'.take m).count (j : Int) := ⟨_, rfl⟩
              rw [← hcj] at c0 hcb
              have hup := cnt_up hown hj
              rw [← htk, ← hcj] at hup
              have HK := Lib.hid hup
              clear hrl hs hown hlive htk hcj hup hnm hq0
              go_wp2_with fail
              go_roundg (rl'.length - (m + 1))
              case measure => omega
              case rel => exact ⟨m + 1, hlt3, Nat.le_refl _, by go_num, HK.out, Sx⟩
            · have hm2 : m = rl'.length := by omega
              rw [hm2, List.take_length] at hown
              have HC3 := Lib.hid hown
              clear hown hm2
              go_wp2_with fail
              go_loopg [169] yL.length (fun gas s169 wr => ∃ i : Nat, i ≤ yL.length ∧ yL.length - i ≤ gas ∧ s169 = .int .i64 i ∧ Owns encN 1 x4.wd.heap.size 3 wr (some ⟨x4.wd.heap.size, 0, none⟩) yL.length (cntL yL.length (rs'.map (·.job) ++ rl')) ∧ SinceOf x4.wd wr)
              case atStart => exact ⟨0, by omega, by omega, rfl, HC3.out, Sx⟩
              case round =>
                obtain ⟨i, hi, hgas4, rfl, hown, ⟨z4, rfl⟩⟩ := hrel
                by_cases hlt4 : i < yL.length
                · obtain ⟨hq0, hlive⟩ := hown.live0 encN_len
                  have hOc := hlive.row.there
                  have c0 := hlive.row.n0 i (by rw [cntL_len]; exact hlt4)
                  rw [cntL_at] at c0
                  simp only [Nat.zero_add] at c0
                  obtain ⟨hc1, hc2⟩ := HN.out.2.2.2.2 i hlt4
                  have hdl := HD.out.2
                  have hid : i < ydr.length := by omega
                  obtain ⟨gd, od, rfl, hrd⟩ := (HD.out.1.of (show SinceOf x2.wd z4.wd from Sx)).at_ (by omega)
                  have hOd := hrd.there
                  have d0 := hrd.cells i hid 0 (.bool ydr[i]) rfl
                  have hv : ydr.getD i false = ydr[i] := by rw [List.getD_eq_getElem?_getD, List.getElem?_eq_getElem hid, Option.getD_some]
                  simp only [Nat.mul_one, Nat.add_zero] at d0
                  rw [hv] at hc2
                  rw [hc2] at d0
                  obtain ⟨cj, hcj⟩ : ∃ cj : Nat, cj = (rs'.map (·.job) ++ rl').count (i : Int) := ⟨_, rfl⟩
                  rw [← hcj] at c0 hc1 d0
                  have HO := Lib.hid hown
                  clear hown hlive hrd hc2 hcj hv hid hdl hq0
                  rcases (show cj = 0 ∨ cj = 1 by omega) with rfl | rfl
                  · simp only [decide_true] at d0
                    go_wp2_with fail
                    go_roundg (yL.length - (i + 1))
                    case measure => omega
                    case rel => exact ⟨i + 1, hlt4, Nat.le_refl _, by go_num, HO.out.of Sx, Sx⟩
                  · rw [show decide (1 = 0) = false from rfl] at d0
                    go_wp2_with fail
                    go_roundg (yL.length - (i + 1))
                    case measure => omega
                    case rel => exact ⟨i + 1, hlt4, Nat.le_refl _, by go_num, HO.out.of Sx, Sx⟩
                · go_wp2_with fail
                  go_returns
                  exact ⟨rfl, Sx⟩
end Go.Proofs.YtpaojgfmffkodaaGreat
