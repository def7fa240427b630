/- Layer 54: ReplanNothing's walk. -/
import Derived.Test.YtpaojgfmffkodaaGreatVRep50
import Derived.Test.YtpaojgfmffkodaaGreatVRepP12
import Derived.Test.YtpaojgfmffkodaaGreatVRep11
import Derived.Test.YtpaojgfmffkodaaGreatVRep44
namespace Go.Proofs.YtpaojgfmffkodaaGreat
set_option linter.unusedVariables false
set_option linter.unusedSimpArgs false
open Go.RowKit Go.Sort
attribute [local go_sem ↓] Go.wp_at_zero Go.wp_at_succ

def eqS (p s : SlotR) : Bool := eqC s.job s.mach s.start s.stop p.job p.mach p.start p.stop
theorem least_of_replan {x : StP} {now : Int} (ok : StOk now x) (hp : x.pd.length ≤ 8) : (leastV x).1 = 0 ∧ LeR (leastV x).2 (replanV x).2 := least_le hp (replan_ok ok)
set_option maxRecDepth 100000 in
set_option maxHeartbeats 16000000 in
theorem nothing_walk (aw : ∀ w : World, Yields Tryz.prog 9 #[] w (.bool true)) (x : CaseR) (w : World) (hx : IsCase w x) :
    Yields Tryz.prog 7 #[caseV x] w (.bool true) := by
  apply Yields.ret
  obtain ⟨⟨sA, sc, cals, sB, sd, R, most⟩, A, c, L, B, d, plan, now, E, ec, evs⟩ := x
  obtain ⟨xe, hxe⟩ : ∃ xe : CaseR, xe = ⟨⟨sA, sc, cals, sB, sd, R, most⟩, A, c, L, B, d, plan, now, none, 0, []⟩ := ⟨_, rfl⟩
  have hxc : IsCase w xe := by
    rw [hxe]
    exact ⟨hx.shop, hx.jobs, hx.plan, IsRow.nil _ _ _, hx.cap, ⟨hx.len.1, by show 0 < 4611686018427387904; decide⟩⟩
  have AP := fun W (hW : SinceOf w W) => apply54_any xe W (hxc.of hW)
  have NW : ∀ y, CaseSt xe y → (replanV (erSt y)).2.moved = [] ∧ (∀ p ∈ plan, (replanV (erSt y)).2.slots.any (eqS p) = true) ∧ (leastV (erSt y)).1 = 0 ∧ LeR (leastV (erSt y)).2 (replanV (erSt y)).2 := fun y hy => by
    obtain ⟨x1, b, ha⟩ := hy.applied
    have hl := hy.lens
    have e3 : (erSt y).pd.length = y.pd.length := rfl
    have h3 := least_of_replan hy.ok (by omega)
    rw [hxe] at ha
    obtain ⟨h1, h2⟩ := nothing_law ha
    refine ⟨h1, fun p hp => ?_, h3⟩
    rw [List.any_eq_true]
    exact ⟨p, h2 p hp, eqC_self _ _ _ _⟩
  have hpe : xe.plan = plan := by rw [hxe]
  have LE := fun y (h : CaseSt xe y) => h.lens
  rw [hpe] at LE
  have SL := fun y => (replan_lens y).slots
  have OK := fun y (h : CaseSt xe y) => replan_ok h.ok
  have hcx : caseV xe = .agg #[.slice sA cals.length sc, .slice sB R.length sd, .int .i64 most, .slice A L.length c, .slice B plan.length d, .int .i64 now, .slice none 0 0] := by rw [hxe]; rfl
  simp only [hcx] at AP
  generalize CaseSt xe = cs at *
  have H := Lib.hid hx
  have HN := Lib.hid NW
  clear hx hxe hxc hcx NW
  go_enter Tryz.func7, Tryz.ntmps7
  go_wp2_with fail
  refine (aw _).calls.mono ?_
  rintro e _ ⟨rfl, x1, rfl⟩
  go_wp2_with fail
  refine (AP _ Sx).mono ?_
  rintro e _ ⟨b, y, rfl, hst, hb, ⟨x2, rfl⟩⟩
  clear AP aw
  cases b
  · clear hb hst
    obtain ⟨⟨ysA, ysc, ycals, ysB, ysd, yR, ymost⟩, yA, yc, yL, ygA, ygc, ybg, ypA, ypc, ypd, ydA, ydc, ydr⟩ := y
    go_wp2_with fail
    go_returns
    exact ⟨rfl, Sx⟩
  · have hcs := hb rfl
    obtain ⟨l1, l2, l3, l4, l5, l6⟩ := LE y hcs
    have RP := fun W (hW : SinceOf x2.wd W) => replan_any y W (hst.of hW) l6 (by omega) (by omega) (by omega)
    have LS := fun W (hW : SinceOf x2.wd W) => least_any y W (hst.of hW) l6 (by omega) (by omega) (by omega)
    obtain ⟨n1, n2, n3, n4⟩ := HN.out y hcs
    rw [OK y hcs] at RP
    rw [n3] at LS
    obtain ⟨rv, hrv⟩ : ∃ r, r = (replanV (erSt y)).2 := ⟨_, rfl⟩
    obtain ⟨lv, hlv⟩ : ∃ r, r = (leastV (erSt y)).2 := ⟨_, rfl⟩
    have hsl0 := SL y
    rw [← hrv] at RP n1 n2 n4 hsl0
    rw [← hlv] at LS n4
    clear hb hst LE OK HN hcs hrv hlv n3 l6 SL hpe
    obtain ⟨⟨ysA, ysc, ycals, ysB, ysd, yR, ymost⟩, yA, yc, yL, ygA, ygc, ybg, ypA, ypc, ypd, ydA, ydc, ydr⟩ := y
    obtain ⟨rs, rm, rl⟩ := rv
    obtain ⟨ls, lm, ll⟩ := lv
    unfold LeR at n4
    simp only at n1 n2 n4 l3 l4 l5 hsl0
    subst n1
    have HN2 := Lib.hid (And.intro n2 n4)
    clear n2 n4
    go_wp2_with fail
    refine (RP _ Sx).mono ?_
    rintro e _ ⟨⟨⟨rs', rm', rl'⟩, rA, rc, rmA, rmc, rlA, rlc⟩, rfl, hr, hres, ⟨x3, rfl⟩⟩
    simp only at hr
    injection hr with hr1 hr2 hr3
    subst hr1 hr2 hr3
    have hsl := hres.slots
    simp only at hsl
    have HR := Lib.hid hsl
    clear RP hres hsl
    have hx3 := x3.size
    (try simp at hx3)
    go_wp2_with fail
    refine (LS _ Sx).mono ?_
    rintro e _ ⟨⟨⟨ls', lm', ll'⟩, lA, lc, lmA, lmc, llA, llc⟩, rfl, hr, hres, ⟨x4, rfl⟩⟩
    simp only at hr
    injection hr with hr1 hr2 hr3
    subst hr1 hr2 hr3
    clear LS hres
    have hx4 := x4.size
    (try simp at hx4)
    go_wp2_with fail
    go_loopg [49] plan.length (fun gas s49 wr => ∃ k : Nat, k ≤ plan.length ∧ plan.length - k ≤ gas ∧ s49 = .int .i64 k ∧ SinceOf (x4.wd.alloc (.cells #[.slice lA ls'.length lc, .slice lmA lm'.length lmc, .slice llA ll'.length llc] 61)) wr)
    case atStart => exact ⟨0, by omega, by omega, rfl, Sx⟩
    case round =>
      obtain ⟨k, hk, hgas, rfl, ⟨z, rfl⟩⟩ := hrel
      by_cases hlt : k < plan.length
      · obtain ⟨gp, op, rfl, hrp⟩ := (H.out.plan.of (show SinceOf w z.wd from Sx)).at_ (by simp only; omega)
        have hOp := hrp.there
        have s0 := hrp.s0 k hlt
        have s1 := hrp.s1 k hlt
        have s2 := hrp.s2 k hlt
        have s3 := hrp.s3 k hlt
        have hany := HN2.out.1 _ (List.getElem_mem hlt)
        obtain ⟨⟨yj, ym, ys, ye⟩, hy⟩ : ∃ y, y = plan[k] := ⟨_, rfl⟩
        rw [← hy] at s0 s1 s2 s3 hany
        simp only at s0 s1 s2 s3
        have HA := Lib.hid hany
        clear hany hrp hy
        go_wp2_with fail
        go_loopg [11, 56] rs'.length (fun gas s11 s56 wr => ∃ (n : Nat) (acc : Bool), n ≤ rs'.length ∧ rs'.length - n ≤ gas ∧ s11 = .bool acc ∧ s56 = .int .i64 n ∧ (acc || (rs'.drop n).any (eqS ⟨yj, ym, ys, ye⟩)) = true ∧ SinceOf (z.wd.alloc (.cells #[.int .i64 yj, .int .i64 ym, .int .i64 ys, .int .i64 ye] 77)) wr)
        case atStart => exact ⟨0, false, by omega, by omega, rfl, rfl, by simpa using HA.out, Sx⟩
        case round =>
          obtain ⟨n, acc, hn, hgas2, rfl, rfl, hany2, ⟨z2, rfl⟩⟩ := hrel
          by_cases hlt2 : n < rs'.length
          · obtain ⟨gr, or, rfl, hrr⟩ := (HR.out.of (show SinceOf x3.wd z2.wd from Sx)).at_ (by omega)
            have hOr := hrr.there
            have t0 := hrr.s0 n hlt2
            have t1 := hrr.s1 n hlt2
            have t2 := hrr.s2 n hlt2
            have t3 := hrr.s3 n hlt2
            simp only [List.drop_eq_getElem_cons hlt2, List.any_cons] at hany2
            obtain ⟨⟨vj, vm, vs, ve⟩, hv⟩ : ∃ y, y = rs'[n] := ⟨_, rfl⟩
            rw [← hv] at t0 t1 t2 t3 hany2
            simp only at t0 t1 t2 t3
            unfold eqS at hany2
            simp only at hany2
            clear hrr hv
            cases acc
            · cases d1 : eqC vj vm vs ve yj ym ys ye
              · rw [d1, Bool.false_or] at hany2
                have HA2 := Lib.hid hany2
                clear hany2
                go_wp2_with fail
                go_roundg (rs'.length - (n + 1))
                case measure => omega
                case rel => exact ⟨n + 1, false, hlt2, Nat.le_refl _, rfl, by go_num, HA2.out, Sx⟩
              · clear hany2
                go_wp2_with fail
                go_roundg (rs'.length - (n + 1))
                case measure => omega
                case rel => exact ⟨n + 1, true, hlt2, Nat.le_refl _, rfl, by go_num, by simp, Sx⟩
            · clear hany2
              go_wp2_with fail
              go_roundg (rs'.length - (n + 1))
              case measure => omega
              case rel => exact ⟨n + 1, true, hlt2, Nat.le_refl _, rfl, by go_num, by simp, Sx⟩
          · have hn2 : n = rs'.length := by omega
            rw [hn2, List.drop_length, List.any_nil, Bool.or_false] at hany2
            subst hany2
            clear hn2
            go_wp2_with fail
            go_roundg (plan.length - (k + 1))
            case measure => omega
            case rel => exact ⟨k + 1, hlt, Nat.le_refl _, by go_num, Sx⟩
      · have hend := HN2.out.2
        rcases (show ll'.length < rl'.length ∨ (¬ ll'.length < rl'.length ∧ lm' = []) by
          rcases hend with h | ⟨h1, h2⟩
          · exact .inl h
          · exact .inr ⟨by omega, List.eq_nil_of_length_eq_zero (by simpa using h2)⟩) with h | ⟨h, rfl⟩
        · clear hend
          go_wp2_with fail
          go_returns
          exact ⟨rfl, Sx⟩
        · clear hend
          go_wp2_with fail
          go_returns
          exact ⟨rfl, Sx⟩
end Go.Proofs.YtpaojgfmffkodaaGreat
