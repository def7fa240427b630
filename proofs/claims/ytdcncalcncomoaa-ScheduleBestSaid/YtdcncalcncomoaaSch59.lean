/- Layer 52: the program's Best gives the order, the schedule and the error of bestV. -/
import Derived.Test.YtdcncalcncomoaaSch57
import Derived.Test.YtdcncalcncomoaaSchAt
import Derived.Deep.RegionHeld3
namespace Go.Proofs.Ytdcncalcncomoaa
open Go.RowKit Go.Sort
set_option linter.unusedVariables false
attribute [local go_sem ↓] Go.wp_at_zero Go.wp_at_succ

set_option maxRecDepth 100000 in
set_option maxHeartbeats 16000000 in
theorem best_any (s : ShopR) (A : Option Addr) (c : Nat) (L : List JobR) (w : World) (hs : IsShop w s) (h : IsJobs w A c L) :
    Calls Try.prog 16 #[shopV s, .slice A L.length c] w fun e w' => ∃ (C : Option Addr) (d : Nat) (B : Option Addr) (b : Nat), e = .returned (.tuple #[.slice C (bestV s L).1.length d, .slice B (bestV s L).2.1.length b, .int .i64 (bestV s L).2.2]) ∧ IsInts w' C d (bestV s L).1 ∧ IsSlots w' B b (bestV s L).2.1 ∧ SinceOf w w' := by
  have CH := fun W hW => check_any s A c L W (hs.of hW) (h.of hW)
  have hjl := h.len
  obtain ⟨res, hres⟩ : ∃ v, v = bestV s L := ⟨_, rfl⟩
  rw [← hres]
  unfold bestV at hres
  cases hc : checkS s L
  · rw [hc, if_neg (by simp)] at hres
    rw [hc] at CH
    subst hres
    obtain ⟨sA, sc, cals, sB, sd, R, most⟩ := s
    clear hs h hc
    go_enter Try.func16, Try.ntmps16
    go_wp2_with fail
    refine (CH _ (by (repeat (first | (with_reducible exact SinceOf.refl _) | (with_reducible assumption) | (with_reducible refine SinceOf.alloc ?_ _) | (with_reducible refine SinceOf.drew ?_) | (with_reducible refine SinceOf.drewN ?_ _) | (with_reducible refine SinceOf.later ?_ _) | (with_reducible refine SinceOf.further ?_ _) | (with_reducible refine SinceOf.setCell ?_ (by first | exact Nat.le_refl _ | (simp; done) | omega | (simp; omega)) _))))).calls.mono ?_
    rintro e _ ⟨rfl, x1, rfl⟩
    go_wp2_with fail
    go_returns
    exact ⟨none, 0, none, 0, rfl, IsRow.nil _ _ _, IsRow.nil _ _ _, by (repeat (first | (with_reducible exact SinceOf.refl _) | (with_reducible assumption) | (with_reducible refine SinceOf.alloc ?_ _) | (with_reducible refine SinceOf.drew ?_) | (with_reducible refine SinceOf.drewN ?_ _) | (with_reducible refine SinceOf.later ?_ _) | (with_reducible refine SinceOf.further ?_ _) | (with_reducible refine SinceOf.setCell ?_ (by first | exact Nat.le_refl _ | (simp; done) | omega | (simp; omega)) _)))⟩
  rw [hc, if_pos rfl] at hres
  by_cases h6 : 6 < L.length
  · rw [if_pos h6] at hres
    rw [hc] at CH
    subst hres
    have h6' : (6 : Int) < L.length := by omega
    obtain ⟨sA, sc, cals, sB, sd, R, most⟩ := s
    clear hs h hc
    go_enter Try.func16, Try.ntmps16
    go_wp2_with fail
    refine (CH _ (by (repeat (first | (with_reducible exact SinceOf.refl _) | (with_reducible assumption) | (with_reducible refine SinceOf.alloc ?_ _) | (with_reducible refine SinceOf.drew ?_) | (with_reducible refine SinceOf.drewN ?_ _) | (with_reducible refine SinceOf.later ?_ _) | (with_reducible refine SinceOf.further ?_ _) | (with_reducible refine SinceOf.setCell ?_ (by first | exact Nat.le_refl _ | (simp; done) | omega | (simp; omega)) _))))).calls.mono ?_
    rintro e _ ⟨rfl, x1, rfl⟩
    go_wp2_with fail
    go_returns
    exact ⟨none, 0, none, 0, rfl, IsRow.nil _ _ _, IsRow.nil _ _ _, by (repeat (first | (with_reducible exact SinceOf.refl _) | (with_reducible assumption) | (with_reducible refine SinceOf.alloc ?_ _) | (with_reducible refine SinceOf.drew ?_) | (with_reducible refine SinceOf.drewN ?_ _) | (with_reducible refine SinceOf.later ?_ _) | (with_reducible refine SinceOf.further ?_ _) | (with_reducible refine SinceOf.setCell ?_ (by first | exact Nat.le_refl _ | (simp; done) | omega | (simp; omega)) _)))⟩
  rw [if_neg h6] at hres
  have h6' : ¬ (6 : Int) < L.length := by omega
  rw [hc] at CH
  have BS := fun gj gf gl go gs gt hbs => bestSearch_any s A c L w hs h hc (by omega) gj gf gl go gs gt hbs L.length [] [] none none 0 none 0
  have hd : dfsB s L L.length [] [] none = bestOver s L none (permsI L.length) := dfsB_over s L L.length [] none
  have hr1 : res.1 = orderB (dfsB s L L.length [] [] none) := by rw [hres, hd]; rfl
  have hr2 : res.2.1 = slotsB (dfsB s L L.length [] [] none) := by rw [hres, hd]; rfl
  have hr3 : res.2.2 = 0 := by rw [hres]
  rw [hr1, hr2, hr3]
  generalize dfsB s L L.length [] [] none = bx at *
  have hgn := good_nil s L
  obtain ⟨sA, sc, cals, sB, sd, R, most⟩ := s
  have H := Lib.hid (And.intro BS hgn)
  clear hs h hc h6 hres hd hr1 hr2 hr3 hgn BS
  go_enter Try.func16, Try.ntmps16
  go_wp2_with fail
  refine (CH _ (by (repeat (first | (with_reducible exact SinceOf.refl _) | (with_reducible assumption) | (with_reducible refine SinceOf.alloc ?_ _) | (with_reducible refine SinceOf.drew ?_) | (with_reducible refine SinceOf.drewN ?_ _) | (with_reducible refine SinceOf.later ?_ _) | (with_reducible refine SinceOf.further ?_ _) | (with_reducible refine SinceOf.setCell ?_ (by first | exact Nat.le_refl _ | (simp; done) | omega | (simp; omega)) _))))).calls.mono ?_
  rintro e _ ⟨rfl, x1, rfl⟩
  clear CH
  have hx := x1.size
  simp at hx
  go_wp2_with fail
  have hgn := H.out.2
  refine (H.out.1 (w.heap.size + 1) x1.wd.heap.size (w.heap.size + 1 + 1 + 1) (w.heap.size + 1 + 1) w.heap.size (x1.wd.heap.size + 1) (by omega) _ ?since (by simp) hgn (by simp) (IsRow.nil _ _ _) (by intro x hx; cases hx) (IsRow.nil _ _ _) (by intro x hx; cases hx) ?bw (by intro q hq; cases hq)).mono ?_
  case since => (repeat (first | (with_reducible exact SinceOf.refl _) | (with_reducible assumption) | (with_reducible refine SinceOf.alloc ?_ _) | (with_reducible refine SinceOf.drew ?_) | (with_reducible refine SinceOf.drewN ?_ _) | (with_reducible refine SinceOf.later ?_ _) | (with_reducible refine SinceOf.further ?_ _) | (with_reducible refine SinceOf.setCell ?_ (by first | exact Nat.le_refl _ | (simp; done) | omega | (simp; omega)) _)))
  case bw =>
    refine ⟨?_, ?_, ?_, ?_, ?_, ?_, ⟨none, 0, none, 0, ?_, ?_, IsRow.nil _ _ _, IsRow.nil _ _ _, (by intro x hx; cases hx), (by intro x hx; cases hx)⟩, ?_, ?_, ?_, ?_, ?_⟩
    all_goals first
      | (simp [go_sem]; done)
      | (simp [go_sem, orderB, slotsB]; done)
      | (simp [go_sem]; omega)
      | omega
  rintro e w' ⟨rfl, hb, hok, hk, hsn⟩
  obtain ⟨C, d, B, b, r1, r2, r3, r4, r5, r6⟩ := hb.rows
  obtain ⟨l1, l2, l3, l4, l5, l6⟩ := hb.lt
  have o1 : Nonempty (Old w' (w.heap.size + 1 + 1)) := ⟨⟨l4⟩⟩
  have o2 : Nonempty (Old w' (w.heap.size + 1 + 1 + 1)) := ⟨⟨l3⟩⟩
  have p1 : Nonempty (Apart (w.heap.size + 1 + 1) (w.heap.size + 1 + 1 + 1)) := ⟨⟨by omega⟩⟩
  have p2 : Nonempty (Apart (w.heap.size + 1 + 1 + 1) (w.heap.size + 1 + 1)) := ⟨⟨by omega⟩⟩
  have hne : w.heap.size + 1 + 1 ≠ w.heap.size + 1 + 1 + 1 := by omega
  have e1 : (w'.setCell ⟨w.heap.size + 1 + 1, 0, none⟩ (.slice C (orderB bx).length d)).cell? ⟨w.heap.size + 1 + 1, 0, none⟩ = some (.slice C (orderB bx).length d) := World.cell?_setCell_same _ _ _ r1
  have e3 : ((w'.setCell ⟨w.heap.size + 1 + 1, 0, none⟩ (.slice C (orderB bx).length d)).setCell ⟨w.heap.size + 1 + 1 + 1, 0, none⟩ (.slice B (slotsB bx).length b)).cell? ⟨w.heap.size + 1 + 1 + 1, 0, none⟩ = some (.slice B (slotsB bx).length b) :=
    World.cell?_setCell_same _ _ _ (u := .slice B (slotsB bx).length b) (by rw [World.cell?_setCell_other _ _ _ _ (by intro e; injection e with e; omega)]; exact r2)
  have fz2 := hb.f2
  have fz3 := hb.f3
  have HR := Lib.hid (And.intro r3 (And.intro r4 (And.intro r5 (And.intro r6 hsn))))
  clear hb hok hk r3 r4 r5 r6 hsn l1 l2 l3 l4 l5 l6
  go_wp2_with fail
  go_region
  all_goals
    go_wp2_with fail
    (try simp only [Exit.inBlock, Exit.then])
    refine bodyPost_ret (by simp [results, Try.results16, go_sem, e1, e3]; try rfl) rfl ?_
    have K : Keeps [x1.wd.heap.size, w.heap.size + 1 + 1 + 1, w.heap.size + 1 + 1] w' ((w'.setCell ⟨w.heap.size + 1 + 1, 0, none⟩ (.slice C (orderB bx).length d)).setCell ⟨w.heap.size + 1 + 1 + 1, 0, none⟩ (.slice B (slotsB bx).length b)) := (Keeps.set w' (by simp) 0 _).trans (Keeps.set _ (by simp) 0 _)
    have K2 := K.trans (Keeps.since _ (SinceOf.drew (SinceOf.refl _)))
    exact ⟨C, d, B, b, by simp, HR.out.1.keeps K2 HR.out.2.2.1, HR.out.2.1.keeps K2 HR.out.2.2.2.1, SinceOf.drew (SinceOf.setCell (SinceOf.setCell HR.out.2.2.2.2 (show w.heap.size ≤ w.heap.size + 1 + 1 by omega) _) (show w.heap.size ≤ w.heap.size + 1 + 1 + 1 by omega) _)⟩
end Go.Proofs.Ytdcncalcncomoaa
/- Layer 52: Theirs, Same; the best of a shop with other calendars' memory; what the law asks of Best. -/
namespace Go.Proofs.Ytdcncalcncomoaa
open Go.RowKit Go.Sort
set_option linter.unusedVariables false
attribute [local go_sem ↓] Go.wp_at_zero Go.wp_at_succ

theorem equalIn_slotR (w : World) (a0 a1 a2 a3 b0 b1 b2 b3 : Int) : (Op.equalIn 10000 46 (costV a0 a1 a2 a3) (costV b0 b1 b2 b3)).run Try.prog w = .ok (eqC a0 a1 a2 a3 b0 b1 b2 b3) w := by
  have u3 := Try.underlying3
  have a3' := Try.isAgg3
  have z3 := Try.sizeOf3
  have hS : Try.prog.underlying 46 = some (.struct (Try.prog.fieldsOf 46)) := by kernel_rfl
  have hp : Try.prog.stoodInHeld 46 = false := by kernel_rfl
  rw [show (10000 : Nat) = 9999 + 1 from rfl, run_equalIn_agg w 9999 46 _ _ hS hp]
  simp only [Program.fieldsOf, Try.underlying46]
  unfold eqC
  go_simp
  by_cases h1 : a0 = b0 <;> by_cases h2 : a1 = b1 <;> by_cases h3 : a2 = b2 <;> by_cases h4 : a3 = b3 <;> simp [h1, h2, h3, h4]
@[go_sem ↓] theorem neq_slotR (w : World) (a0 a1 a2 a3 b0 b1 b2 b3 : Int) : (binOp .neq 46 (costV a0 a1 a2 a3) (costV b0 b1 b2 b3)).run Try.prog w = .ok (.bool (!eqC a0 a1 a2 a3 b0 b1 b2 b3)) w := by
  rw [run_neq_struct, equalIn_slotR]; rfl
@[go_sem ↓] theorem eqGuard_slotR (w : World) (op : BinOp) (x y : Operand) (a0 a1 a2 a3 b0 b1 b2 b3 : Int) : (eqGuard op 46 x y (costV a0 a1 a2 a3) (costV b0 b1 b2 b3)).run Try.prog w = .ok () w :=
  run_eqGuard_agg w op _ x y _ _ (by kernel_rfl)
theorem eqC_self (a b c d : Int) : eqC a b c d a b c d = true := by unfold eqC; simp
theorem beginV_with (s : ShopR) (cA : Option Addr) (cc : Nat) (L : List JobR) (jb m : Int) : ∀ (l : List SlotR) (b : Int), beginV (withCals s cA cc) L jb m b l = beginV s L jb m b l
  | [], b => rfl
  | x :: r, b => by
    unfold beginV
    rw [beginV_with s cA cc L jb m r, beginV_with s cA cc L jb m r]
    rfl
theorem firstFit_with (s : ShopR) (cA : Option Addr) (cc : Nat) (L : List JobR) (l : List SlotR) (jb m : Int) : ∀ (ts : List Int), firstFit (withCals s cA cc) L l jb m ts = firstFit s L l jb m ts
  | [] => rfl
  | t :: r => by
    unfold firstFit
    rw [firstFit_with s cA cc L l jb m r]
    rfl
theorem onV_with (s : ShopR) (cA : Option Addr) (cc : Nat) (L : List JobR) (l : List SlotR) (jb m : Int) : onV (withCals s cA cc) L l jb m = onV s L l jb m := by
  unfold onV
  rw [beginV_with]
  cases beginV s L jb m (jobAt L jb).rel l with
  | none => rfl
  | some b => exact firstFit_with s cA cc L l jb m _
theorem dispatchV_with (s : ShopR) (cA : Option Addr) (cc : Nat) (L : List JobR) (l : List SlotR) (j : Int) : dispatchV (withCals s cA cc) L l j = dispatchV s L l j := by
  unfold dispatchV
  rw [show (fun (best : Option SlotR) (m : Int) => betterS best (onV (withCals s cA cc) L l j m)) = fun best m => betterS best (onV s L l j m) from funext fun b => funext fun m => by rw [onV_with]]
theorem placeAll_with (s : ShopR) (cA : Option Addr) (cc : Nat) (L : List JobR) : ∀ (o : List Int) (l : List SlotR), placeAll (withCals s cA cc) L l o = placeAll s L l o
  | [], l => rfl
  | j :: o, l => by
    rw [place_cons, place_cons, placeAll_with s cA cc L o]
    unfold placeV
    rw [dispatchV_with]
theorem bestV_with (s : ShopR) (cA : Option Addr) (cc : Nat) (L : List JobR) : bestV (withCals s cA cc) L = bestV s L := by
  have e : ∀ b os, bestOver (withCals s cA cc) L b os = bestOver s L b os := by
    intro b os
    unfold bestOver
    rw [show (fun (b : BestR) (o : List Int) => bestStep L b (o, placeAll (withCals s cA cc) L [] o)) = fun b o => bestStep L b (o, placeAll s L [] o) from funext fun b => funext fun o => by rw [placeAll_with]]
  have e2 : checkS (withCals s cA cc) L = checkS s L := rfl
  unfold bestV
  rw [e, e2]
theorem order_good {s : ShopR} {L : List JobR} {order : List Int} (hc : checkS s L = true) (h : (listV s L order).1 = 0) : GoodS s L (listV s L order).2.1 ∧ (listV s L order).2.1.length ≤ order.length ∧ (listV s L order).2.1 = placeAll s L [] order ∧ (listGo s L [] [] order).1 = 0 := by
  unfold listV at h ⊢
  rw [if_pos hc] at h ⊢
  have e := list_place order [] [] h
  obtain ⟨a1, a2, a3, a4⟩ := succ_spec order [] [] h (by simp [jobsOf])
  rw [e]
  refine ⟨?_, ?_, rfl, h⟩
  · rw [← a1]
    exact place_good hc _ [] (good_nil s L) a3
  · have := place_length s L order []
    simpa using this
/-- What the law asks of Best's answer. -/
theorem bestV_facts (s : ShopR) (L : List JobR) (hn : L.length ≤ 4 ∨ 6 < L.length) : (bestV s L).1.length ≤ 4 ∧ (bestV s L).2.1.length ≤ 4 ∧ ((bestV s L).2.2 = 0 → checkS s L = true ∧ L.length ≤ 4 ∧ GoodS s L (bestV s L).2.1 ∧ ∀ order, (listV s L order).1 = 0 → costLt L (listV s L order).2.1 (bestV s L).2.1 = false) := by
  unfold bestV
  cases hc : checkS s L
  · rw [if_neg (by simp)]
    exact ⟨by simp, by simp, fun h => absurd h (by simp)⟩
  · rw [if_pos rfl]
    by_cases h6 : 6 < L.length
    · rw [if_pos h6]
      exact ⟨by simp, by simp, fun h => absurd h (by simp)⟩
    · rw [if_neg h6]
      have hn4 : L.length ≤ 4 := by omega
      obtain ⟨b1, b2⟩ := best_min (s := s) (L := L) (permsI L.length) [] none (fun b hb => by cases hb) (fun _ => rfl) (fun b o hb => by cases hb)
      cases hb : bestOver s L none (permsI L.length) with
      | none =>
        have e := b2 hb
        rw [List.nil_append] at e
        have hh := (perms_chain L.length hn4).2
        rw [e] at hh
        cases hh
      | some b =>
        obtain ⟨⟨b3, b4⟩, b5⟩ := b1 b hb
        rw [List.nil_append] at b3
        have l1 := dfs_len L.length [] b.1 b3
        have l2 := place_length s L b.1 []
        have l3 := dfs_range L.length [] b.1 (by simp) (by simp) b3
        simp at l1 l2
        simp only [Option.getD_some]
        refine ⟨by omega, by rw [b4]; omega, fun _ => ⟨by first | exact rfl | trivial, hn4, by rw [b4]; exact place_good hc _ [] (good_nil s L) l3.1, fun order ho => ?_⟩⟩
        obtain ⟨-, -, e, h0⟩ := order_good hc ho
        rw [e]
        exact best_law h0 hb
set_option maxRecDepth 100000 in
set_option maxHeartbeats 4000000 in
theorem refSameS_any (A B : Option Addr) (c d : Nat) (l : List SlotR) (w : World) (hl : IsSlots w A c l) (hm : IsSlots w B d l) (hn : l.length < 4611686018427387904) :
    Gives Try.prog 18 #[.slice A l.length c, .slice B l.length d] w (.bool true) := by
  apply Gives.ret
  have H := Lib.hid (And.intro hl hm)
  clear hl hm
  go_enter Try.func18, Try.ntmps18
  go_wp2
  go_loopg [5] l.length (fun n s5 wr => ∃ k : Nat, k ≤ l.length ∧ l.length - k ≤ n ∧ s5 = .int .i64 k ∧ LaterOf w wr)
  case atStart => exact ⟨0, by omega, by omega, rfl, by (repeat (first | (with_reducible exact LaterOf.refl _) | (with_reducible refine LaterOf.alloc ?_ _) | (with_reducible refine LaterOf.drew ?_) | (with_reducible refine LaterOf.drewN ?_ _) | (with_reducible refine LaterOf.later ?_ _) | (with_reducible refine LaterOf.setCell ?_ (by first | exact Nat.le_refl _ | (simp; done) | omega | (simp; omega)) _)))⟩
  case round =>
    obtain ⟨k, hk, hg, rfl, ⟨z, rfl⟩⟩ := hrel
    by_cases hlt : k < l.length
    · obtain ⟨g, off, rfl, hr⟩ := (H.out.1.later z).at_ (by omega)
      obtain ⟨g2, off2, rfl, hr2⟩ := (H.out.2.later z).at_ (by omega)
      have hO := hr.there
      have hO2 := hr2.there
      have c0 := hr.s0 k hlt
      have c1 := hr.s1 k hlt
      have c2 := hr.s2 k hlt
      have c3 := hr.s3 k hlt
      have d0 := hr2.s0 k hlt
      have d1 := hr2.s1 k hlt
      have d2 := hr2.s2 k hlt
      have d3 := hr2.s3 k hlt
      clear hr hr2
      generalize l[k] = x at *
      obtain ⟨x0, x1, x2, x3⟩ := x
      simp only at c0 c1 c2 c3 d0 d1 d2 d3
      have heq := eqC_self x0 x1 x2 x3
      go_wp2_with fail
      refine region_later (by kernel_rfl) (by kernel_rfl) ?_
      repeat (go_big_quiet_step (fail))
      refine wpQuiet_nil ?_
      rintro _ ⟨z2, rfl⟩
      go_wp2_with fail
      go_roundg (l.length - (k + 1))
      case measure => omega
      case rel => exact ⟨k + 1, hlt, Nat.le_refl _, by go_num, by (repeat (first | (with_reducible exact LaterOf.refl _) | (with_reducible refine LaterOf.alloc ?_ _) | (with_reducible refine LaterOf.drew ?_) | (with_reducible refine LaterOf.drewN ?_ _) | (with_reducible refine LaterOf.later ?_ _) | (with_reducible refine LaterOf.setCell ?_ (by first | exact Nat.le_refl _ | (simp; done) | omega | (simp; omega)) _)))⟩
    · have hkl : k = l.length := by omega
      go_wp2_with fail
      go_returns
      exact ⟨rfl, by (repeat (first | (with_reducible exact LaterOf.refl _) | (with_reducible refine LaterOf.alloc ?_ _) | (with_reducible refine LaterOf.drew ?_) | (with_reducible refine LaterOf.drewN ?_ _) | (with_reducible refine LaterOf.later ?_ _) | (with_reducible refine LaterOf.setCell ?_ (by first | exact Nat.le_refl _ | (simp; done) | omega | (simp; omega)) _)))⟩
end Go.Proofs.Ytdcncalcncomoaa
