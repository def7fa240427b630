/- Layer 52: the reference's Few. -/
import Derived.Test.YtdcncalcncomoaaSch16
import Derived.Laws.StructEq
namespace Go.Proofs.Ytdcncalcncomoaa
open Go.RowKit Go.Sort
set_option linter.unusedVariables false
attribute [local go_sem ↓] Go.wp_at_zero Go.wp_at_succ

theorem all_drop {α : Type} (f : α → Bool) {l : List α} {k : Nat} (h : k < l.length) : (l.drop k).all f = (f l[k] && (l.drop (k + 1)).all f) := by
  rw [List.drop_eq_getElem_cons h, List.all_cons]
def few1 (x : CalR) : Bool := decide (x.S.length ≤ 25) && decide (x.D.length ≤ 25)
def few2 (j : JobR) : Bool := decide ((j.ms.length : Int) ≤ 8)
def fewP (s : ShopR) (L : List JobR) : Bool := s.cals.all few1 && (L.all few2 && (decide ((s.cals.length : Int) ≤ 3) && (decide ((L.length : Int) ≤ 8) && decide ((s.rows.length : Int) ≤ 9))))
set_option maxRecDepth 100000 in
set_option maxHeartbeats 4000000 in
theorem few52_any (s : ShopR) (A : Option Addr) (c : Nat) (L : List JobR) (w : World) (hs : IsShop w s) (h : IsJobs w A c L) :
    Gives Try.prog 27 #[shopV s, .slice A L.length c] w (.bool (fewP s L)) := by
  apply Gives.ret
  have hcl := hs.cals.len
  have hrl := hs.rows.len
  have hjl := h.len
  obtain ⟨sA, sc, cals, sB, sd, R, most⟩ := s
  obtain ⟨res, hres⟩ : ∃ v, v = fewP ⟨sA, sc, cals, sB, sd, R, most⟩ L := ⟨_, rfl⟩
  rw [← hres]
  have H := Lib.hid (And.intro hs (And.intro h hres))
  simp only at hcl hrl
  clear hs h hres
  go_enter Try.func27, Try.ntmps27
  go_wp2_with fail
  go_loopg [5] cals.length (fun gas s5 wr => ∃ k : Nat, k ≤ cals.length ∧ cals.length - k ≤ gas ∧ s5 = .int .i64 k ∧ LaterOf (w.alloc (.cells #[.slice sA cals.length sc, .slice sB R.length sd, .int .i64 most] 25)) wr ∧ cals.all few1 = (cals.drop k).all few1)
  case atStart => exact ⟨0, by omega, by omega, rfl, by (repeat (first | (with_reducible exact LaterOf.refl _) | (with_reducible refine LaterOf.alloc ?_ _) | (with_reducible refine LaterOf.drew ?_) | (with_reducible refine LaterOf.drewN ?_ _) | (with_reducible refine LaterOf.later ?_ _) | (with_reducible refine LaterOf.setCell ?_ (by first | exact Nat.le_refl _ | (simp; done) | omega | (simp; omega)) _))), by rw [List.drop_zero]⟩
  case round =>
    obtain ⟨k, hk, hgas, rfl, ⟨z, rfl⟩, hall⟩ := hrel
    by_cases hlt : k < cals.length
    · rw [all_drop few1 hlt] at hall
      have hc := H.out.1.cals.of (w' := z.wd) (by (repeat (first | (with_reducible exact SinceOf.refl _) | (with_reducible assumption) | (with_reducible refine SinceOf.alloc ?_ _) | (with_reducible refine SinceOf.drew ?_) | (with_reducible refine SinceOf.drewN ?_ _) | (with_reducible refine SinceOf.later ?_ _) | (with_reducible refine SinceOf.further ?_ _) | (with_reducible refine SinceOf.setCell ?_ (by first | exact Nat.le_refl _ | (simp; done) | omega | (simp; omega)) _))))
      have F := few_any (hc.all _ (List.getElem_mem hlt))
      obtain ⟨g, off, hAc, hr⟩ := hc.row.at_ (by show 0 < cals.length; omega)
      simp only at hAc
      subst hAc
      have hO := hr.there
      have k0 := hr.k0 k hlt
      have k1 := hr.k1 k hlt
      have k2 := hr.k2 k hlt
      have ef : few1 cals[k] = (decide (cals[k].S.length ≤ 25) && decide (cals[k].D.length ≤ 25)) := rfl
      simp only at F k0 k1 k2
      rw [← ef] at F
      generalize cals[k] = x at *
      generalize few1 x = q at *
      have HA := Lib.hid hall
      clear hall hc hr ef
      cases q
      · go_wp2_with fail
        refine F.calls.mono ?_
        rintro e _ ⟨rfl, x1, rfl⟩
        go_wp2_with fail
        go_returns
        exact ⟨by rw [H.out.2.2]; unfold fewP; rw [HA.out]; rfl, by (repeat (first | (with_reducible exact LaterOf.refl _) | (with_reducible refine LaterOf.alloc ?_ _) | (with_reducible refine LaterOf.drew ?_) | (with_reducible refine LaterOf.drewN ?_ _) | (with_reducible refine LaterOf.later ?_ _) | (with_reducible refine LaterOf.setCell ?_ (by first | exact Nat.le_refl _ | (simp; done) | omega | (simp; omega)) _)))⟩
      · go_wp2_with fail
        refine F.calls.mono ?_
        rintro e _ ⟨rfl, x1, rfl⟩
        go_wp2_with fail
        go_roundg (cals.length - (k + 1))
        case measure => omega
        case rel => exact ⟨k + 1, hlt, Nat.le_refl _, by go_num, by (repeat (first | (with_reducible exact LaterOf.refl _) | (with_reducible refine LaterOf.alloc ?_ _) | (with_reducible refine LaterOf.drew ?_) | (with_reducible refine LaterOf.drewN ?_ _) | (with_reducible refine LaterOf.later ?_ _) | (with_reducible refine LaterOf.setCell ?_ (by first | exact Nat.le_refl _ | (simp; done) | omega | (simp; omega)) _))), by rw [HA.out]; simp⟩
    · have hkl : k = cals.length := by omega
      rw [hkl, List.drop_length] at hall
      have HA := Lib.hid hall
      clear hall hkl
      go_wp2_with fail
      go_loopg [6] L.length (fun gas s6 wr => ∃ i : Nat, i ≤ L.length ∧ L.length - i ≤ gas ∧ s6 = .int .i64 i ∧ z.wd = wr ∧ L.all few2 = (L.drop i).all few2)
      case atStart => exact ⟨0, by omega, by omega, rfl, rfl, by rw [List.drop_zero]⟩
      case round =>
        obtain ⟨i, hi, hgas2, rfl, rfl, hall2⟩ := hrel
        by_cases hlti : i < L.length
        · rw [all_drop few2 hlti] at hall2
          have hj := H.out.2.1.of (w' := z.wd) (by (repeat (first | (with_reducible exact SinceOf.refl _) | (with_reducible assumption) | (with_reducible refine SinceOf.alloc ?_ _) | (with_reducible refine SinceOf.drew ?_) | (with_reducible refine SinceOf.drewN ?_ _) | (with_reducible refine SinceOf.later ?_ _) | (with_reducible refine SinceOf.further ?_ _) | (with_reducible refine SinceOf.setCell ?_ (by first | exact Nat.le_refl _ | (simp; done) | omega | (simp; omega)) _))))
          obtain ⟨g, off, rfl, hr⟩ := hj.row.at_ (by omega)
          have hO := hr.there
          have j0 := hr.j0 i hlti
          have hml := (hj.all _ (List.getElem_mem hlti)).2
          have ef : few2 L[i] = decide ((L[i].ms.length : Int) ≤ 8) := rfl
          generalize L[i] = x at *
          rw [ef] at hall2
          clear hr hj ef
          by_cases h8 : x.ms.length ≤ 8
          · have e1 : decide ((x.ms.length : Int) ≤ 8) = true := by simp; omega
            rw [e1, Bool.true_and] at hall2
            have HB := Lib.hid hall2
            clear hall2
            go_wp2_with fail
            go_roundg (L.length - (i + 1))
            case measure => omega
            case rel => exact ⟨i + 1, hlti, Nat.le_refl _, by go_num, rfl, HB.out⟩
          · have e1 : decide ((x.ms.length : Int) ≤ 8) = false := by simp; omega
            rw [e1, Bool.false_and] at hall2
            have HB := Lib.hid hall2
            have h9 : 8 < x.ms.length := by omega
            clear hall2 h8
            go_wp2_with fail
            go_returns
            exact ⟨by rw [H.out.2.2]; unfold fewP; rw [HB.out, Bool.false_and, Bool.and_false]; rfl, by (repeat (first | (with_reducible exact LaterOf.refl _) | (with_reducible refine LaterOf.alloc ?_ _) | (with_reducible refine LaterOf.drew ?_) | (with_reducible refine LaterOf.drewN ?_ _) | (with_reducible refine LaterOf.later ?_ _) | (with_reducible refine LaterOf.setCell ?_ (by first | exact Nat.le_refl _ | (simp; done) | omega | (simp; omega)) _)))⟩
        · have hil : i = L.length := by omega
          rw [hil, List.drop_length] at hall2
          have HB := Lib.hid hall2
          have hres : res = (decide ((cals.length : Int) ≤ 3) && (decide ((L.length : Int) ≤ 8) && decide ((R.length : Int) ≤ 9))) := by
            rw [H.out.2.2]; unfold fewP; rw [HA.out, HB.out]; simp
          have HR := Lib.hid hres
          clear hall2 hil hres
          by_cases h3 : cals.length ≤ 3
          · by_cases h8 : L.length ≤ 8
            · go_wp2_with fail
              go_returns
              exact ⟨by rw [HR.out, show decide ((cals.length : Int) ≤ 3) = true from by simp; omega, show decide ((L.length : Int) ≤ 8) = true from by simp; omega, Bool.true_and, Bool.true_and]; rfl, by (repeat (first | (with_reducible exact LaterOf.refl _) | (with_reducible refine LaterOf.alloc ?_ _) | (with_reducible refine LaterOf.drew ?_) | (with_reducible refine LaterOf.drewN ?_ _) | (with_reducible refine LaterOf.later ?_ _) | (with_reducible refine LaterOf.setCell ?_ (by first | exact Nat.le_refl _ | (simp; done) | omega | (simp; omega)) _)))⟩
            · go_wp2_with fail
              go_returns
              exact ⟨by rw [HR.out]; simp; omega, by (repeat (first | (with_reducible exact LaterOf.refl _) | (with_reducible refine LaterOf.alloc ?_ _) | (with_reducible refine LaterOf.drew ?_) | (with_reducible refine LaterOf.drewN ?_ _) | (with_reducible refine LaterOf.later ?_ _) | (with_reducible refine LaterOf.setCell ?_ (by first | exact Nat.le_refl _ | (simp; done) | omega | (simp; omega)) _)))⟩
          · go_wp2_with fail
            go_returns
            exact ⟨by rw [HR.out]; simp; omega, by (repeat (first | (with_reducible exact LaterOf.refl _) | (with_reducible refine LaterOf.alloc ?_ _) | (with_reducible refine LaterOf.drew ?_) | (with_reducible refine LaterOf.drewN ?_ _) | (with_reducible refine LaterOf.later ?_ _) | (with_reducible refine LaterOf.setCell ?_ (by first | exact Nat.le_refl _ | (simp; done) | omega | (simp; omega)) _)))⟩
end Go.Proofs.Ytdcncalcncomoaa
/- Layer 52: the law's small. -/
namespace Go.Proofs.Ytdcncalcncomoaa
open Go.RowKit Go.Sort
set_option linter.unusedVariables false
attribute [local go_sem ↓] Go.wp_at_zero Go.wp_at_succ

def lateB (j : JobR) : Bool := decide (20000 < j.rel) && decide (j.rel ≤ 1000000)
def smallB (s : ShopR) (L : List JobR) : Bool := !L.any lateB && fewP s L
abbrev probV (s : ShopR) (A : Option Addr) (n c : Nat) : Value := .agg #[.slice s.A s.cals.length s.c, .slice s.B s.rows.length s.d, .int .i64 s.most, .slice A n c]
set_option maxRecDepth 100000 in
set_option maxHeartbeats 4000000 in
theorem small_any (s : ShopR) (A : Option Addr) (c : Nat) (L : List JobR) (w : World) (hs : IsShop w s) (h : IsJobs w A c L) :
    Gives Try.prog 6 #[probV s A L.length c] w (.bool (smallB s L)) := by
  apply Gives.ret
  have FW := fun W hW => few52_any s A c L W (hs.of hW) (h.of hW)
  have hjl := h.len
  have e : smallB s L = (!L.any lateB && fewP s L) := rfl
  obtain ⟨res, hres⟩ : ∃ v, v = smallB s L := ⟨_, rfl⟩
  rw [← hres]
  rw [e] at hres
  generalize fewP s L = q at *
  have H := Lib.hid (And.intro h hres)
  obtain ⟨sA, sc, cals, sB, sd, R, most⟩ := s
  clear hs h hres e
  go_enter Try.func6, Try.ntmps6
  go_wp2_with fail
  go_loopg [8] L.length (fun gas s8 wr => ∃ k : Nat, k ≤ L.length ∧ L.length - k ≤ gas ∧ s8 = .int .i64 k ∧ LaterOf (w.alloc (.cells #[.slice sA cals.length sc, .slice sB R.length sd, .int .i64 most, .slice A L.length c] 28)) wr ∧ L.any lateB = (L.drop k).any lateB)
  case atStart => exact ⟨0, by omega, by omega, rfl, by (repeat (first | (with_reducible exact LaterOf.refl _) | (with_reducible refine LaterOf.alloc ?_ _) | (with_reducible refine LaterOf.drew ?_) | (with_reducible refine LaterOf.drewN ?_ _) | (with_reducible refine LaterOf.later ?_ _) | (with_reducible refine LaterOf.setCell ?_ (by first | exact Nat.le_refl _ | (simp; done) | omega | (simp; omega)) _))), by rw [List.drop_zero]⟩
  case round =>
    obtain ⟨k, hk, hgas, rfl, ⟨z, rfl⟩, hany⟩ := hrel
    by_cases hlt : k < L.length
    · rw [any_drop lateB hlt] at hany
      have hj := H.out.1.of (w' := z.wd) (by (repeat (first | (with_reducible exact SinceOf.refl _) | (with_reducible assumption) | (with_reducible refine SinceOf.alloc ?_ _) | (with_reducible refine SinceOf.drew ?_) | (with_reducible refine SinceOf.drewN ?_ _) | (with_reducible refine SinceOf.later ?_ _) | (with_reducible refine SinceOf.further ?_ _) | (with_reducible refine SinceOf.setCell ?_ (by first | exact Nat.le_refl _ | (simp; done) | omega | (simp; omega)) _))))
      obtain ⟨g, off, rfl, hr⟩ := hj.row.at_ (by omega)
      have hO := hr.there
      have j0 := hr.j0 k hlt
      have j1 := hr.j1 k hlt
      have j2 := hr.j2 k hlt
      have j3 := hr.j3 k hlt
      have j4 := hr.j4 k hlt
      have j5 := hr.j5 k hlt
      have ef : lateB L[k] = (decide (20000 < L[k].rel) && decide (L[k].rel ≤ 1000000)) := rfl
      generalize L[k] = x at *
      rw [ef] at hany
      clear hr hj ef
      have hcase : (decide (20000 < x.rel) = true ∧ decide (x.rel ≤ 1000000) = true) ∨ (decide (20000 < x.rel) = true ∧ decide (x.rel ≤ 1000000) = false) ∨ decide (20000 < x.rel) = false := by
        cases decide (20000 < x.rel) <;> cases decide (x.rel ≤ 1000000) <;> simp
      rcases hcase with ⟨f1, f2⟩ | ⟨f1, f2⟩ | f1
      · rw [f1, f2] at hany
        have HA := Lib.hid hany
        clear hany
        go_wp2_with fail
        go_returns
        exact ⟨by rw [H.out.2, HA.out]; rfl, by (repeat (first | (with_reducible exact LaterOf.refl _) | (with_reducible refine LaterOf.alloc ?_ _) | (with_reducible refine LaterOf.drew ?_) | (with_reducible refine LaterOf.drewN ?_ _) | (with_reducible refine LaterOf.later ?_ _) | (with_reducible refine LaterOf.setCell ?_ (by first | exact Nat.le_refl _ | (simp; done) | omega | (simp; omega)) _)))⟩
      · rw [f1, f2] at hany
        have HA := Lib.hid hany
        clear hany
        go_wp2_with fail
        go_roundg (L.length - (k + 1))
        case measure => omega
        case rel => exact ⟨k + 1, hlt, Nat.le_refl _, by go_num, by (repeat (first | (with_reducible exact LaterOf.refl _) | (with_reducible refine LaterOf.alloc ?_ _) | (with_reducible refine LaterOf.drew ?_) | (with_reducible refine LaterOf.drewN ?_ _) | (with_reducible refine LaterOf.later ?_ _) | (with_reducible refine LaterOf.setCell ?_ (by first | exact Nat.le_refl _ | (simp; done) | omega | (simp; omega)) _))), by rw [HA.out]; simp⟩
      · rw [f1] at hany
        have HA := Lib.hid hany
        clear hany
        go_wp2_with fail
        go_roundg (L.length - (k + 1))
        case measure => omega
        case rel => exact ⟨k + 1, hlt, Nat.le_refl _, by go_num, by (repeat (first | (with_reducible exact LaterOf.refl _) | (with_reducible refine LaterOf.alloc ?_ _) | (with_reducible refine LaterOf.drew ?_) | (with_reducible refine LaterOf.drewN ?_ _) | (with_reducible refine LaterOf.later ?_ _) | (with_reducible refine LaterOf.setCell ?_ (by first | exact Nat.le_refl _ | (simp; done) | omega | (simp; omega)) _))), by rw [HA.out]; simp⟩
    · have hkl : k = L.length := by omega
      rw [hkl, List.drop_length] at hany
      have HA := Lib.hid hany
      clear hany hkl
      go_wp2_with fail
      refine (FW _ (by (repeat (first | (with_reducible exact SinceOf.refl _) | (with_reducible assumption) | (with_reducible refine SinceOf.alloc ?_ _) | (with_reducible refine SinceOf.drew ?_) | (with_reducible refine SinceOf.drewN ?_ _) | (with_reducible refine SinceOf.later ?_ _) | (with_reducible refine SinceOf.further ?_ _) | (with_reducible refine SinceOf.setCell ?_ (by first | exact Nat.le_refl _ | (simp; done) | omega | (simp; omega)) _))))).calls.mono ?_
      rintro e _ ⟨rfl, x1, rfl⟩
      go_wp2_with fail
      go_returns
      exact ⟨by rw [H.out.2, HA.out]; rfl, by (repeat (first | (with_reducible exact LaterOf.refl _) | (with_reducible refine LaterOf.alloc ?_ _) | (with_reducible refine LaterOf.drew ?_) | (with_reducible refine LaterOf.drewN ?_ _) | (with_reducible refine LaterOf.later ?_ _) | (with_reducible refine LaterOf.setCell ?_ (by first | exact Nat.le_refl _ | (simp; done) | omega | (simp; omega)) _)))⟩
end Go.Proofs.Ytdcncalcncomoaa
/- Layer 52: equality of costs. -/
namespace Go.Proofs.Ytdcncalcncomoaa
open Go.RowKit Go.Sort
set_option linter.unusedVariables false

/-- Are two costs one? -/
def eqC (a0 a1 a2 a3 b0 b1 b2 b3 : Int) : Bool := a0 == b0 && (a1 == b1 && (a2 == b2 && a3 == b3))
theorem equalIn_cost (w : World) (a0 a1 a2 a3 b0 b1 b2 b3 : Int) : (Op.equalIn 10000 70 (costV a0 a1 a2 a3) (costV b0 b1 b2 b3)).run Try.prog w = .ok (eqC a0 a1 a2 a3 b0 b1 b2 b3) w := by
  have u3 := Try.underlying3
  have a3' := Try.isAgg3
  have z3 := Try.sizeOf3
  have hS : Try.prog.underlying 70 = some (.struct (Try.prog.fieldsOf 70)) := by kernel_rfl
  have hp : Try.prog.stoodInHeld 70 = false := by kernel_rfl
  rw [show (10000 : Nat) = 9999 + 1 from rfl, run_equalIn_agg w 9999 70 _ _ hS hp]
  simp only [Program.fieldsOf, Try.underlying70]
  unfold eqC
  go_simp
  by_cases h1 : a0 = b0 <;> by_cases h2 : a1 = b1 <;> by_cases h3 : a2 = b2 <;> by_cases h4 : a3 = b3 <;> simp [h1, h2, h3, h4]
@[go_sem ↓] theorem neq_cost (w : World) (a0 a1 a2 a3 b0 b1 b2 b3 : Int) : (binOp .neq 70 (costV a0 a1 a2 a3) (costV b0 b1 b2 b3)).run Try.prog w = .ok (.bool (!eqC a0 a1 a2 a3 b0 b1 b2 b3)) w := by
  rw [run_neq_struct, equalIn_cost]; rfl
@[go_sem ↓] theorem eqGuard_cost (w : World) (op : BinOp) (x y : Operand) (a0 a1 a2 a3 b0 b1 b2 b3 : Int) : (eqGuard op 70 x y (costV a0 a1 a2 a3) (costV b0 b1 b2 b3)).run Try.prog w = .ok () w :=
  run_eqGuard_agg w op _ x y _ _ (by kernel_rfl)
/-- Of two costs that differ exactly one is less; less is transitive. -/
theorem lessC_order (a0 a1 a2 a3 b0 b1 b2 b3 : Int) : (lessC a0 a1 a2 a3 b0 b1 b2 b3 = true ∧ lessC b0 b1 b2 b3 a0 a1 a2 a3 = false ∧ eqC a0 a1 a2 a3 b0 b1 b2 b3 = false) ∨ (lessC a0 a1 a2 a3 b0 b1 b2 b3 = false ∧ lessC b0 b1 b2 b3 a0 a1 a2 a3 = true ∧ eqC a0 a1 a2 a3 b0 b1 b2 b3 = false) ∨ (lessC a0 a1 a2 a3 b0 b1 b2 b3 = false ∧ lessC b0 b1 b2 b3 a0 a1 a2 a3 = false ∧ eqC a0 a1 a2 a3 b0 b1 b2 b3 = true) := by
  have e : eqC a0 a1 a2 a3 b0 b1 b2 b3 = decide (a0 = b0 ∧ a1 = b1 ∧ a2 = b2 ∧ a3 = b3) := by unfold eqC; rw [Bool.eq_iff_iff]; simp
  rw [e]
  rcases lessC_cases a0 a1 a2 a3 b0 b1 b2 b3 with ⟨h0, k⟩ | ⟨h0, h1, k⟩ | ⟨h0, h1, h2, k⟩ | ⟨h0, h1, h2, k⟩ <;> rcases lessC_cases b0 b1 b2 b3 a0 a1 a2 a3 with ⟨g0, j⟩ | ⟨g0, g1, j⟩ | ⟨g0, g1, g2, j⟩ | ⟨g0, g1, g2, j⟩ <;> rw [k, j] <;> simp only [decide_eq_true_eq, decide_eq_false_iff_not] <;> omega
end Go.Proofs.Ytdcncalcncomoaa
