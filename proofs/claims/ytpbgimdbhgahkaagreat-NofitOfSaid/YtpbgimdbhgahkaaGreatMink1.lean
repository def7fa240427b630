/- Layer 15: near, next, upper, Valid of the program. -/
import Derived.Test.YtpbgimdbhgahkaaGreatMinkP3
import Derived.Test.YtpbgimdbhgahkaaGreatVecs
import Derived.Test.YtpbgimdbhgahkaaGreatSort
import Derived.Deep.LoopGhost
import Derived.Deep.RegionHeld3
import Derived.BigRegion
import Derived.Deep.DeepCutAuto
import Derived.Deep.DrawnRows
import Derived.Deep.RegionLaw
import Derived.Deep.CutBlock
import Derived.IntWalk
namespace Go.Proofs.YtpbgimdbhgahkaaGreat
open Go.RowKit Go.Sort
set_option linter.unusedVariables false
set_option linter.unusedSimpArgs false
attribute [local go_sem ↓] Go.wp_at_zero Go.wp_at_succ

theorem any_dropV (p : Pt → Bool) {l : List Pt} {k : Nat} (h : k < l.length) : (l.drop k).any p = (p l[k] || (l.drop (k + 1)).any p) := by
  rw [List.drop_eq_getElem_cons h, List.any_cons]
theorem all_dropV (p : Pt → Bool) {l : List Pt} {k : Nat} (h : k < l.length) : (l.drop k).all p = (p l[k] && (l.drop (k + 1)).all p) := by
  rw [List.drop_eq_getElem_cons h, List.all_cons]
theorem all_any : ∀ l : List Pt, l.all inV = !l.any (fun p => !inV p)
  | [] => rfl
  | p :: l => by rw [List.all_cons, List.any_cons, all_any l, Bool.not_or, Bool.not_not]
/-- A variable of two ints in a block of its own. -/
structure VarV (W : World) (g : Nat) (p : Pt) : Prop where
  c0 : W.cell? ⟨g, 0, none⟩ = some (.int .i64 p.1)
  c1 : W.cell? ⟨g, 1, none⟩ = some (.int .i64 p.2)
  f0 : W.frozen? ⟨g, 0, none⟩ = false
  f1 : W.frozen? ⟨g, 1, none⟩ = false
  lt : g < W.heap.size
theorem VarV.of {W W' : World} {g : Nat} {p : Pt} (h : VarV W g p) (hs : SinceOf W W') : VarV W' g p := by
  obtain ⟨z, rfl⟩ := hs
  have hO : Nonempty (Old W g) := ⟨⟨h.lt⟩⟩
  exact ⟨by rw [Since.cell]; exact h.c0, by rw [Since.cell]; exact h.c1, by rw [Since.frozen]; exact h.f0, by rw [Since.frozen]; exact h.f1, Nat.lt_of_lt_of_le h.lt z.size⟩
theorem VarV.put {W : World} {g : Nat} {p : Pt} (h : VarV W g p) (x y : Int) : VarV ((W.setCell ⟨g, 0, none⟩ (.int .i64 x)).setCell ⟨g, 1, none⟩ (.int .i64 y)) g (x, y) := by
  have v : IsVec W g p.1 p.2 := ⟨h.c0, h.c1, h.f0, h.f1, ⟨⟨h.lt⟩⟩⟩
  have q := v.set x y
  exact ⟨q.c0, q.c1, q.f0, q.f1, by simpa [World.setCell] using h.lt⟩
theorem VarV.new (W : World) (x y : Int) (t : TypeId) : VarV (W.alloc (.cells #[.int .i64 x, .int .i64 y] t)) W.heap.size (x, y) :=
  ⟨by simp, by simp, by simp, by simp, by simp⟩
set_option maxRecDepth 100000 in
set_option maxHeartbeats 2000000 in
theorem nearFn_any (x y : Int) (w : World) : Gives Tryz.prog 70 #[vv x y] w (.bool (!inV (x, y))) := by
  apply Gives.ret
  have W1 := within_any x y 8000
  rw [show withinB x y 8000 = inV (x, y) from rfl] at W1
  generalize inV (x, y) = b at *
  go_enter Tryz.func70, Tryz.ntmps70
  go_wp2_with fail
  refine (W1 _).calls.mono ?_
  rintro e _ ⟨rfl, x1, rfl⟩
  go_wp2_with fail
  go_returns
  exact ⟨rfl, by (repeat (first | (with_reducible exact LaterOf.refl _) | (with_reducible refine LaterOf.alloc ?_ _) | (with_reducible refine LaterOf.drew ?_) | (with_reducible refine LaterOf.drewN ?_ _) | (with_reducible refine LaterOf.later ?_ _) | (with_reducible refine LaterOf.setCell ?_ (by first | exact Nat.le_refl _ | (simp; done) | omega | (simp; omega)) _)))⟩
set_option maxRecDepth 100000 in
set_option maxHeartbeats 2000000 in
theorem indexNear_any (A : Option Addr) (c : Nat) (l : List (Int × Int)) (w : World) (h : IsVecs w A c l) (hlen : l.length < 4611686018427387904) :
    Calls Tryz.prog 81 #[.slice A l.length c, .func (.func 70) #[] #[]] w fun e w' => ∃ r : Int, e = .returned (.int .i64 r) ∧ decide (0 ≤ r) = l.any (fun p => !inV p) ∧ LaterOf w w' := by
  have H := Lib.hid h
  clear h
  go_enter Tryz.func81, Tryz.ntmps81
  go_wp2_with fail
  go_loopg [8] l.length (fun gas s8 wr => ∃ k : Nat, k ≤ l.length ∧ l.length - k ≤ gas ∧ s8 = .int .i64 k ∧ LaterOf w wr ∧ l.any (fun p => !inV p) = (l.drop k).any (fun p => !inV p))
  case atStart => exact ⟨0, by omega, by omega, rfl, by (repeat (first | (with_reducible exact LaterOf.refl _) | (with_reducible refine LaterOf.alloc ?_ _) | (with_reducible refine LaterOf.drew ?_) | (with_reducible refine LaterOf.drewN ?_ _) | (with_reducible refine LaterOf.later ?_ _) | (with_reducible refine LaterOf.setCell ?_ (by first | exact Nat.le_refl _ | (simp; done) | omega | (simp; omega)) _))), by rw [List.drop_zero]⟩
  case round =>
    obtain ⟨k, hk, hgas, rfl, ⟨z, rfl⟩, hany⟩ := hrel
    by_cases hlt : k < l.length
    · have hc := (H.out.of (LaterOf.since ⟨z, rfl⟩))
      obtain ⟨g, off, rfl, hr⟩ := hc.at_ (by omega)
      have hO := hr.there
      have k0 := hr.v0 k hlt
      have k1 := hr.v1 k hlt
      have C := nearFn_any l[k].1 l[k].2
      rw [any_dropV _ hlt] at hany
      rw [show (l[k].1, l[k].2) = l[k] from rfl] at C
      generalize inV l[k] = b at *
      generalize l[k].1 = px at *
      generalize l[k].2 = py at *
      clear hc hr
      cases b
      · rw [Bool.not_false] at C hany
        rw [Bool.true_or] at hany
        have HA := Lib.hid hany
        clear hany
        go_wp2_with fail
        refine (C _).calls.mono ?_
        rintro e _ ⟨rfl, x1, rfl⟩
        go_wp2_with fail
        go_returns
        exact ⟨(k : Int), rfl, by rw [HA.out]; simp, by (repeat (first | (with_reducible exact LaterOf.refl _) | (with_reducible refine LaterOf.alloc ?_ _) | (with_reducible refine LaterOf.drew ?_) | (with_reducible refine LaterOf.drewN ?_ _) | (with_reducible refine LaterOf.later ?_ _) | (with_reducible refine LaterOf.setCell ?_ (by first | exact Nat.le_refl _ | (simp; done) | omega | (simp; omega)) _)))⟩
      · rw [Bool.not_true] at C hany
        rw [Bool.false_or] at hany
        have HA := Lib.hid hany
        clear hany
        go_wp2_with fail
        refine (C _).calls.mono ?_
        rintro e _ ⟨rfl, x1, rfl⟩
        go_wp2_with fail
        go_roundg (l.length - (k + 1))
        case measure => omega
        case rel => exact ⟨k + 1, hlt, Nat.le_refl _, by go_num, by (repeat (first | (with_reducible exact LaterOf.refl _) | (with_reducible refine LaterOf.alloc ?_ _) | (with_reducible refine LaterOf.drew ?_) | (with_reducible refine LaterOf.drewN ?_ _) | (with_reducible refine LaterOf.later ?_ _) | (with_reducible refine LaterOf.setCell ?_ (by first | exact Nat.le_refl _ | (simp; done) | omega | (simp; omega)) _))), HA.out⟩
    · have hkl : k = l.length := by omega
      rw [hkl, List.drop_length] at hany
      have HA := Lib.hid hany
      clear hany
      go_wp2_with fail
      go_returns
      exact ⟨-1, rfl, by rw [HA.out]; rfl, by (repeat (first | (with_reducible exact LaterOf.refl _) | (with_reducible refine LaterOf.alloc ?_ _) | (with_reducible refine LaterOf.drew ?_) | (with_reducible refine LaterOf.drewN ?_ _) | (with_reducible refine LaterOf.later ?_ _) | (with_reducible refine LaterOf.setCell ?_ (by first | exact Nat.le_refl _ | (simp; done) | omega | (simp; omega)) _)))⟩
set_option maxRecDepth 100000 in
set_option maxHeartbeats 2000000 in
theorem near_any (A : Option Addr) (c : Nat) (l : List (Int × Int)) (w : World) (h : IsVecs w A c l) (hlen : l.length < 4611686018427387904) :
    Gives Tryz.prog 42 #[.slice A l.length c] w (.bool (l.all inV)) := by
  have hC : Gives Tryz.prog 69 #[.slice A l.length c, .func (.func 70) #[] #[]] w (.bool (l.any (fun p => !inV p))) := by
    apply Gives.ret
    have C := indexNear_any A c l w h hlen
    generalize l.any (fun p => !inV p) = b at *
    clear h
    go_enter Tryz.func69, Tryz.ntmps69
    go_wp2_with fail
    refine C.mono ?_
    rintro e _ ⟨r, rfl, hr, x1, rfl⟩
    go_wp2_with fail
    go_returns
    exact ⟨rfl, by (repeat (first | (with_reducible exact LaterOf.refl _) | (with_reducible refine LaterOf.alloc ?_ _) | (with_reducible refine LaterOf.drew ?_) | (with_reducible refine LaterOf.drewN ?_ _) | (with_reducible refine LaterOf.later ?_ _) | (with_reducible refine LaterOf.setCell ?_ (by first | exact Nat.le_refl _ | (simp; done) | omega | (simp; omega)) _)))⟩
  apply Gives.ret
  have e : l.all inV = !l.any (fun p => !inV p) := all_any l
  rw [e]
  generalize l.any (fun p => !inV p) = b at *
  clear h e
  go_enter Tryz.func42, Tryz.ntmps42
  go_wp2_with fail
  refine hC.calls.mono ?_
  rintro e _ ⟨rfl, x1, rfl⟩
  go_wp2_with fail
  go_returns
  exact ⟨rfl, by (repeat (first | (with_reducible exact LaterOf.refl _) | (with_reducible refine LaterOf.alloc ?_ _) | (with_reducible refine LaterOf.drew ?_) | (with_reducible refine LaterOf.drewN ?_ _) | (with_reducible refine LaterOf.later ?_ _) | (with_reducible refine LaterOf.setCell ?_ (by first | exact Nat.le_refl _ | (simp; done) | omega | (simp; omega)) _)))⟩
set_option maxRecDepth 100000 in
set_option maxHeartbeats 2000000 in
theorem upper_any (x y : Int) (w : World) : Gives Tryz.prog 55 #[vv x y] w (.bool (upB (x, y))) := by
  apply Gives.ret
  unfold upB
  simp only
  by_cases h1 : 0 < y
  · have g1 : decide (0 < y) = true := decide_eq_true h1
    rw [g1, Bool.true_or]
    go_enter Tryz.func55, Tryz.ntmps55
    go_wp2_with fail
    go_returns
    exact ⟨rfl, by (repeat (first | (with_reducible exact LaterOf.refl _) | (with_reducible refine LaterOf.alloc ?_ _) | (with_reducible refine LaterOf.drew ?_) | (with_reducible refine LaterOf.drewN ?_ _) | (with_reducible refine LaterOf.later ?_ _) | (with_reducible refine LaterOf.setCell ?_ (by first | exact Nat.le_refl _ | (simp; done) | omega | (simp; omega)) _)))⟩
  · have g1 : decide (0 < y) = false := decide_eq_false h1
    rw [g1, Bool.false_or]
    by_cases h2 : y = 0
    · have g2 : (y == 0) = true := by simpa using h2
      have g3 : decide (y = 0) = true := decide_eq_true h2
      rw [g3, Bool.true_and]
      generalize hb : decide (0 < x) = b at *
      clear h1 h2 g3
      go_enter Tryz.func55, Tryz.ntmps55
      go_wp2_with fail
      go_returns
      exact ⟨by simp [hb], by (repeat (first | (with_reducible exact LaterOf.refl _) | (with_reducible refine LaterOf.alloc ?_ _) | (with_reducible refine LaterOf.drew ?_) | (with_reducible refine LaterOf.drewN ?_ _) | (with_reducible refine LaterOf.later ?_ _) | (with_reducible refine LaterOf.setCell ?_ (by first | exact Nat.le_refl _ | (simp; done) | omega | (simp; omega)) _)))⟩
    · have g2 : (y == 0) = false := by simpa using h2
      have g3 : decide (y = 0) = false := decide_eq_false h2
      rw [g3, Bool.false_and]
      clear h1 h2 g3
      go_enter Tryz.func55, Tryz.ntmps55
      go_wp2_with fail
      go_returns
      exact ⟨rfl, by (repeat (first | (with_reducible exact LaterOf.refl _) | (with_reducible refine LaterOf.alloc ?_ _) | (with_reducible refine LaterOf.drew ?_) | (with_reducible refine LaterOf.drewN ?_ _) | (with_reducible refine LaterOf.later ?_ _) | (with_reducible refine LaterOf.setCell ?_ (by first | exact Nat.le_refl _ | (simp; done) | omega | (simp; omega)) _)))⟩
set_option maxRecDepth 100000 in
set_option maxHeartbeats 2000000 in
theorem next_any (A : Option Addr) (c : Nat) (r : List (Int × Int)) (j : Nat) (w : World) (h : IsVecs w A c r) (h0 : 0 < r.length) (hlen : r.length ≤ 100000) (hj : j ≤ 100000) :
    Gives Tryz.prog 52 #[.slice A r.length c, .int .i64 j] w (vv (rv r (j + 1)).1 (rv r (j + 1)).2) := by
  apply Gives.ret
  have hq : (j + 1) % r.length < r.length := Nat.mod_lt _ h0
  have hqt : Int.tmod ((j : Int) + 1) (r.length : Int) = (((j + 1) % r.length : Nat) : Int) := by rw [Int.tmod_eq_emod_of_nonneg (by omega), Int.natCast_emod, Int.natCast_add]; rfl
  have hqe : ((j : Int) + 1) % (r.length : Int) = (((j + 1) % r.length : Nat) : Int) := by rw [Int.natCast_emod, Int.natCast_add]; rfl
  obtain ⟨g, off, rfl, hr⟩ := h.at_ h0
  have hO := hr.there
  have a0 := hr.v0 _ hq
  have a1 := hr.v1 _ hq
  have e : rv r (j + 1) = r[(j + 1) % r.length] := at0_eq hq
  rw [e]
  generalize r[(j + 1) % r.length] = p at *
  generalize (j + 1) % r.length = q at *
  obtain ⟨px, py⟩ := p
  simp only at a0 a1
  have hn0 : ¬ (r.length : Int) = 0 := by omega
  clear h hr e
  go_enter Tryz.func52, Tryz.ntmps52
  go_wp2_with fail
  refine bodyPost_ret (by simp [results, Tryz.results52, go_sem, *]; try rfl) rfl ?_
  exact ⟨rfl, by (repeat (first | (with_reducible exact LaterOf.refl _) | (with_reducible refine LaterOf.alloc ?_ _) | (with_reducible refine LaterOf.drew ?_) | (with_reducible refine LaterOf.drewN ?_ _) | (with_reducible refine LaterOf.later ?_ _) | (with_reducible refine LaterOf.setCell ?_ (by first | exact Nat.le_refl _ | (simp; done) | omega | (simp; omega)) _)))⟩
theorem crs_exact {a b c d : Int} (ha : -16000 ≤ a ∧ a ≤ 16000) (hb : -16000 ≤ b ∧ b ≤ 16000) (hc : -16000 ≤ c ∧ c ≤ 16000) (hd : -16000 ≤ d ∧ d ≤ 16000) : crossI a b c d = crs (a, b) (c, d) :=
  cross_exact (by omega) (by omega) (by omega) (by omega)
theorem edge_exact {p q : Pt} (hp : near 8000 p) (hq : near 8000 q) : wsub q.1 p.1 = (subP q p).1 ∧ wsub q.2 p.2 = (subP q p).2 ∧ (-16000 ≤ (subP q p).1 ∧ (subP q p).1 ≤ 16000) ∧ (-16000 ≤ (subP q p).2 ∧ (subP q p).2 ≤ 16000) := by
  unfold near at hp hq
  unfold subP
  rw [wsub_in (by omega), wsub_in (by omega)]
  exact ⟨rfl, rfl, by omega, by omega⟩
theorem validB_small {r : List Pt} (h : r.length < 3 ∨ 160 < r.length) : validB r = false := by
  cases q : validB r
  · rfl
  · obtain ⟨h1, h2, -⟩ := validB_iff.1 q
    omega
theorem validB_far {r : List Pt} (h : r.all inV = false) : validB r = false := by
  unfold validB
  rw [h, Bool.and_false, Bool.false_and, Bool.false_and]
theorem validB_right {r : List Pt} {i : Nat} (hi : i < r.length) (h : leftAt r i = false) : validB r = false := by
  unfold validB
  have : (List.range r.length).all (leftAt r) = false := List.all_eq_false.2 ⟨i, List.mem_range.2 hi, by rw [h]; decide⟩
  rw [this, Bool.and_false, Bool.false_and]
theorem validB_end {r : List Pt} (h3 : 3 ≤ r.length) (h160 : r.length ≤ 160) (hn : r.all inV = true) (hl : ∀ i, i < r.length → leftAt r i = true) : validB r = decide (turns r r.length = 1) := by
  unfold validB
  have : (List.range r.length).all (leftAt r) = true := List.all_eq_true.2 fun i hi => hl i (List.mem_range.1 hi)
  rw [decide_eq_true h3, decide_eq_true h160, hn, this]
  rfl
end Go.Proofs.YtpbgimdbhgahkaaGreat
