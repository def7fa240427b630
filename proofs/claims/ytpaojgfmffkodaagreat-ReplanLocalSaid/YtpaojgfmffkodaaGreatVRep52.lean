/- Layer 54: ReplanLocal's walk. -/
import Derived.Test.YtpaojgfmffkodaaGreatVRep50
import Derived.Test.YtpaojgfmffkodaaGreatVRepP12
import Derived.Test.YtpaojgfmffkodaaGreatVRep44
namespace Go.Proofs.YtpaojgfmffkodaaGreat
set_option linter.unusedVariables false
set_option linter.unusedSimpArgs false
open Go.RowKit Go.Sort
attribute [local go_sem ↓] Go.wp_at_zero Go.wp_at_succ

def shutE (p : SlotR) (j : Int) (v : EvR) : Bool := (p.job == j) && ((v.kind == 1) && (v.mach == p.mach))
set_option maxRecDepth 100000 in
set_option maxHeartbeats 16000000 in
theorem local_walk (aw : ∀ w : World, Yields Tryz.prog 9 #[] w (.bool true)) (x : CaseR) (w : World) (hx : IsCase w x) :
    Yields Tryz.prog 8 #[caseV x] w (.bool true) := by
  apply Yields.ret
  have AP := fun W (hW : SinceOf w W) => apply54_any x W (hx.of hW)
  have LW : ∀ y, CaseSt x y → (y.L.length : Int) ≤ y.s.most → ∀ j ∈ (replanV (erSt y)).2.moved, (x.plan.any fun p => x.evs.any (shutE p j)) = true := fun y hy hm j hj => by
    obtain ⟨x1, b, ha⟩ := hy.applied
    have e1 : (erSt y).L.length = y.L.length := erL_length y.L
    have e2 : (erSt y).s.most = y.s.most := rfl
    obtain ⟨p, hp, v, hv, h1, h2, h3⟩ := local_law ha (by rw [e1, e2]; exact hm) j hj
    rw [List.any_eq_true]
    refine ⟨p, hp, ?_⟩
    rw [List.any_eq_true]
    refine ⟨v, hv, ?_⟩
    unfold shutE
    simp [h1, h2, h3]
  have LE := fun y (h : CaseSt x y) => h.lens
  have OK := fun y (h : CaseSt x y) => replan_ok h.ok
  have ML := fun y => (replan_lens y).moved
  generalize CaseSt x = cs at *
  obtain ⟨⟨sA, sc, cals, sB, sd, R, most⟩, A, c, L, B, d, plan, now, E, ec, evs⟩ := x
  simp only at AP LW LE
  have H := Lib.hid hx
  have hpl := hx.len
  simp only at hpl
  have HL := Lib.hid LW
  clear hx LW
  go_enter Tryz.func8, Tryz.ntmps8
  go_wp2_with fail
  refine (aw _).calls.mono ?_
  rintro e _ ⟨rfl, x1, rfl⟩
  go_wp2_with fail
  refine (AP _ Sx).mono ?_
  rintro e _ ⟨b, y, rfl, hst, hb, ⟨x2, rfl⟩⟩
  clear AP aw
  cases b
  · clear hb hst
    obtain ⟨⟨ysA, ysc, ycals, ysB, ysd, yR, ymost⟩, yA, yc, yL, ygA, ygc, ybg, ypA, ypc, ypd, ydA, ydc, ydr⟩ := y
    go_wp2_with fail
    go_returns
    exact ⟨rfl, Sx⟩
  · have hcs := hb rfl
    obtain ⟨l1, l2, l3, l4, l5, l6⟩ := LE y hcs
    have RP := fun W (hW : SinceOf x2.wd W) => replan_any y W (hst.of hW) l6 (by omega) (by omega) (by omega)
    rw [OK y hcs] at RP
    have HY := HL.out y hcs
    obtain ⟨rv, hrv⟩ : ∃ r, r = (replanV (erSt y)).2 := ⟨_, rfl⟩
    have hml := ML y
    rw [← hrv] at RP HY hml
    clear hb hst LE OK HL hcs hrv l6 ML
    obtain ⟨⟨ysA, ysc, ycals, ysB, ysd, yR, ymost⟩, yA, yc, yL, ygA, ygc, ybg, ypA, ypc, ypd, ydA, ydc, ydr⟩ := y
    simp only at HY l3 l4 l5 hml
    by_cases hm : ymost < (yL.length : Int)
    · clear RP HY
      go_wp2_with fail
      go_returns
      exact ⟨rfl, Sx⟩
    · have HM := Lib.hid (HY (by omega))
      clear HY
      go_wp2_with fail
      refine (RP _ Sx).mono ?_
      rintro e _ ⟨⟨⟨rs, rm, rl⟩, rA, rc, rmA, rmc, rlA, rlc⟩, rfl, hr, hres, ⟨x3, rfl⟩⟩
      simp only at hr
      subst hr
      simp only at hml
      have hmv := hres.moved
      simp only at hmv
      have HR := Lib.hid hmv
      clear RP hres hmv
      have hx3 := x3.size
      (try simp at hx3)
      go_wp2_with fail
      go_loopg [42] rm.length (fun gas s42 wr => ∃ k : Nat, k ≤ rm.length ∧ rm.length - k ≤ gas ∧ s42 = .int .i64 k ∧ SinceOf (x3.wd.alloc (.cells #[.slice rA rs.length rc, .slice rmA rm.length rmc, .slice rlA rl.length rlc] 61)) wr)
      case atStart => exact ⟨0, by omega, by omega, rfl, Sx⟩
      case round =>
        obtain ⟨k, hk, hgas, rfl, ⟨z, rfl⟩⟩ := hrel
        by_cases hlt : k < rm.length
        · obtain ⟨gm, om, rfl, hrm⟩ := (HR.out.of (show SinceOf x3.wd z.wd from Sx)).at_ (by omega)
          have hOm := hrm.there
          have m0 := hrm.n0 k hlt
          have hcl := HM.out rm[k] (List.getElem_mem hlt)
          generalize rm[k] = j at *
          clear hrm
          have HCL := Lib.hid hcl
          clear hcl
          go_wp2_with fail
          go_loopg [9, 49] plan.length (fun gas s9 s49 wr => ∃ (i : Nat) (acc : Bool), i ≤ plan.length ∧ plan.length - i ≤ gas ∧ s9 = .bool acc ∧ s49 = .int .i64 i ∧ (acc || (plan.drop i).any fun p => evs.any (shutE p j)) = true ∧ SinceOf z.wd wr)
          case atStart => exact ⟨0, false, by omega, by omega, rfl, rfl, by simpa using HCL.out, Sx⟩
          case round =>
            obtain ⟨i, acc, hi, hgas2, rfl, rfl, hany, ⟨z2, rfl⟩⟩ := hrel
            by_cases hlt2 : i < plan.length
            · obtain ⟨gp, op, rfl, hrp⟩ := (H.out.plan.of (show SinceOf w z2.wd from Sx)).at_ (by simp only; omega)
              have hOp := hrp.there
              have s0 := hrp.s0 i hlt2
              have s1 := hrp.s1 i hlt2
              have s2 := hrp.s2 i hlt2
              have s3 := hrp.s3 i hlt2
              simp only [List.drop_eq_getElem_cons hlt2, List.any_cons] at hany
              obtain ⟨⟨yj, ym, ys, ye⟩, hy⟩ : ∃ y, y = plan[i] := ⟨_, rfl⟩
              rw [← hy] at s0 s1 s2 s3 hany
              simp only at s0 s1 s2 s3
              have HA := Lib.hid hany
              clear hany hrp hy
              go_wp2_with fail
              go_loopg [9, 56] evs.length (fun gas s9 s56 wr => ∃ (n : Nat) (acc : Bool), n ≤ evs.length ∧ evs.length - n ≤ gas ∧ s9 = .bool acc ∧ s56 = .int .i64 n ∧ (acc || ((evs.drop n).any (shutE ⟨yj, ym, ys, ye⟩ j) || (plan.drop (i + 1)).any fun p => evs.any (shutE p j))) = true ∧ SinceOf (z2.wd.alloc (.cells #[.int .i64 yj, .int .i64 ym, .int .i64 ys, .int .i64 ye] 77)) wr)
              case atStart => exact ⟨0, acc, by omega, by omega, rfl, rfl, by rw [List.drop_zero]; exact HA.out, Sx⟩
              case round =>
                obtain ⟨n, acc2, hn, hgas3, rfl, rfl, hany2, ⟨z3, rfl⟩⟩ := hrel
                by_cases hlt3 : n < evs.length
                · obtain ⟨ge, oe, rfl, hre⟩ := (H.out.evs.of (show SinceOf w z3.wd from Sx)).at_ (by simp only; omega)
                  have hOe := hre.there
                  have e0 := hre.e0 n hlt3
                  have e1 := hre.e1 n hlt3
                  have e2 := hre.e2 n hlt3
                  have e3 := hre.e3 n hlt3
                  have e4 := hre.e4 n hlt3
                  simp only [List.drop_eq_getElem_cons hlt3, List.any_cons] at hany2
                  obtain ⟨⟨vk, vm, vf, vt, vj⟩, hv⟩ : ∃ y, y = evs[n] := ⟨_, rfl⟩
                  rw [← hv] at e0 e1 e2 e3 e4 hany2
                  simp only at e0 e1 e2 e3 e4
                  rw [show shutE ⟨yj, ym, ys, ye⟩ j ⟨vk, vm, vf, vt, vj⟩ = ((yj == j) && ((vk == 1) && (vm == ym))) from rfl] at hany2
                  clear hre hv
                  cases acc2
                  · cases d1 : (yj == j)
                    · rw [d1, Bool.false_and] at hany2
                      have HA2 := Lib.hid hany2
                      clear hany2
                      go_wp2_with fail
                      go_roundg (evs.length - (n + 1))
                      case measure => omega
                      case rel => exact ⟨n + 1, false, hlt3, Nat.le_refl _, rfl, by go_num, by simpa using HA2.out, Sx⟩
                    · cases d2 : (vk == 1)
                      · rw [d1, d2, Bool.true_and, Bool.false_and] at hany2
                        have HA2 := Lib.hid hany2
                        clear hany2
                        go_wp2_with fail
                        go_roundg (evs.length - (n + 1))
                        case measure => omega
                        case rel => exact ⟨n + 1, false, hlt3, Nat.le_refl _, rfl, by go_num, by simpa using HA2.out, Sx⟩
                      · cases d3 : (vm == ym)
                        · rw [d1, d2, d3, Bool.true_and, Bool.true_and] at hany2
                          have HA2 := Lib.hid hany2
                          clear hany2
                          go_wp2_with fail
                          go_roundg (evs.length - (n + 1))
                          case measure => omega
                          case rel => exact ⟨n + 1, false, hlt3, Nat.le_refl _, rfl, by go_num, by simpa using HA2.out, Sx⟩
                        · clear hany2
                          go_wp2_with fail
                          go_roundg (evs.length - (n + 1))
                          case measure => omega
                          case rel => exact ⟨n + 1, true, hlt3, Nat.le_refl _, rfl, by go_num, by simp, Sx⟩
                  · clear hany2
                    go_wp2_with fail
                    go_roundg (evs.length - (n + 1))
                    case measure => omega
                    case rel => exact ⟨n + 1, true, hlt3, Nat.le_refl _, rfl, by go_num, by simp, Sx⟩
                · have hn2 : n = evs.length := by omega
                  rw [hn2, List.drop_length, List.any_nil, Bool.false_or] at hany2
                  have HA2 := Lib.hid hany2
                  clear hany2 hn2
                  go_wp2_with fail
                  go_roundg (plan.length - (i + 1))
                  case measure => omega
                  case rel => exact ⟨i + 1, acc2, hlt2, Nat.le_refl _, rfl, by go_num, HA2.out, Sx⟩
            · have hi2 : i = plan.length := by omega
              rw [hi2, List.drop_length, List.any_nil, Bool.or_false] at hany
              subst hany
              clear hi2
              go_wp2_with fail
              go_roundg (rm.length - (k + 1))
              case measure => omega
              case rel => exact ⟨k + 1, hlt, Nat.le_refl _, by go_num, Sx⟩
        · go_wp2_with fail
          go_returns
          exact ⟨rfl, Sx⟩
end Go.Proofs.YtpaojgfmffkodaaGreat
