/- The law VecBox of layer 6: the plain law and the walk. -/
import Derived.Test.YtpehkfnehgcjmaaBoxes
import Derived.Test.YtpehkfnehgcjmaaVecB
import Derived.Test.YtpehkfnehgcjmaaAwake06
import Derived.ChangeKeysEq
namespace Go.Proofs.Ytpehkfnehgcjmaa
open Go.RowKit
set_option linter.unusedVariables false
attribute [local go_sem ↓] Go.wp_at_zero Go.wp_at_succ

theorem bfold_spec : ∀ (l : List (Int × Int)) (a : Int × Int × Int × Int),
    ((l.foldl bstep a).1 ≤ a.1 ∧ (l.foldl bstep a).2.1 ≤ a.2.1 ∧ a.2.2.1 ≤ (l.foldl bstep a).2.2.1 ∧ a.2.2.2 ≤ (l.foldl bstep a).2.2.2) ∧
    (∀ p ∈ l, (l.foldl bstep a).1 ≤ p.1 ∧ (l.foldl bstep a).2.1 ≤ p.2 ∧ p.1 ≤ (l.foldl bstep a).2.2.1 ∧ p.2 ≤ (l.foldl bstep a).2.2.2) ∧
    ((l.foldl bstep a).1 = a.1 ∨ ∃ p ∈ l, p.1 = (l.foldl bstep a).1) ∧ ((l.foldl bstep a).2.1 = a.2.1 ∨ ∃ p ∈ l, p.2 = (l.foldl bstep a).2.1) ∧
    ((l.foldl bstep a).2.2.1 = a.2.2.1 ∨ ∃ p ∈ l, p.1 = (l.foldl bstep a).2.2.1) ∧ ((l.foldl bstep a).2.2.2 = a.2.2.2 ∨ ∃ p ∈ l, p.2 = (l.foldl bstep a).2.2.2)
  | [], a => by simp
  | q :: l, a => by
    obtain ⟨h1, h2, h3, h4, h5, h6⟩ := bfold_spec l (bstep a q)
    rw [List.foldl_cons]
    have e : (bstep a q).1 = imin a.1 q.1 ∧ (bstep a q).2.1 = imin a.2.1 q.2 ∧ (bstep a q).2.2.1 = imax a.2.2.1 q.1 ∧ (bstep a q).2.2.2 = imax a.2.2.2 q.2 := ⟨rfl, rfl, rfl, rfl⟩
    generalize l.foldl bstep (bstep a q) = r at *
    generalize bstep a q = s at *
    have lo : ∀ u v : Int, (imin u v ≤ u ∧ imin u v ≤ v) ∧ (imin u v = u ∨ imin u v = v) := fun u v => by unfold imin; split <;> omega
    have hi : ∀ u v : Int, (u ≤ imax u v ∧ v ≤ imax u v) ∧ (imax u v = u ∨ imax u v = v) := fun u v => by unfold imax; split <;> omega
    have l1 := lo a.1 q.1
    have l2 := lo a.2.1 q.2
    have l3 := hi a.2.2.1 q.1
    have l4 := hi a.2.2.2 q.2
    rw [← e.1] at l1
    rw [← e.2.1] at l2
    rw [← e.2.2.1] at l3
    rw [← e.2.2.2] at l4
    refine ⟨⟨by omega, by omega, by omega, by omega⟩, ?_, ?_, ?_, ?_, ?_⟩
    · intro p hp
      rcases List.mem_cons.1 hp with rfl | hp
      · exact ⟨by omega, by omega, by omega, by omega⟩
      · exact h2 p hp
    · rcases h3 with h | ⟨p, hp, h⟩
      · rcases l1.2 with k | k
        · exact .inl (by omega)
        · exact .inr ⟨q, List.mem_cons_self .., by omega⟩
      · exact .inr ⟨p, List.mem_cons_of_mem _ hp, h⟩
    · rcases h4 with h | ⟨p, hp, h⟩
      · rcases l2.2 with k | k
        · exact .inl (by omega)
        · exact .inr ⟨q, List.mem_cons_self .., by omega⟩
      · exact .inr ⟨p, List.mem_cons_of_mem _ hp, h⟩
    · rcases h5 with h | ⟨p, hp, h⟩
      · rcases l3.2 with k | k
        · exact .inl (by omega)
        · exact .inr ⟨q, List.mem_cons_self .., by omega⟩
      · exact .inr ⟨p, List.mem_cons_of_mem _ hp, h⟩
    · rcases h6 with h | ⟨p, hp, h⟩
      · rcases l4.2 with k | k
        · exact .inl (by omega)
        · exact .inr ⟨q, List.mem_cons_self .., by omega⟩
      · exact .inr ⟨p, List.mem_cons_of_mem _ hp, h⟩
theorem boxOf_spec {l : List (Int × Int)} (h : 0 < l.length) : (∀ p ∈ l, inB (boxOf l).1 (boxOf l).2.1 (boxOf l).2.2.1 (boxOf l).2.2.2 p.1 p.2 = true) ∧
    (l.any (fun p => p.1 == (boxOf l).1) = true ∧ l.any (fun p => p.1 == (boxOf l).2.2.1) = true ∧ l.any (fun p => p.2 == (boxOf l).2.1) = true ∧ l.any (fun p => p.2 == (boxOf l).2.2.2) = true) := by
  match l, h with
  | q :: l', _ =>
    obtain ⟨-, h2, h3, h4, h5, h6⟩ := bfold_spec (q :: l') (q.1, q.2, q.1, q.2)
    have e : boxOf (q :: l') = (q :: l').foldl bstep (q.1, q.2, q.1, q.2) := rfl
    rw [← e] at h2 h3 h4 h5 h6
    generalize boxOf (q :: l') = r at *
    refine ⟨fun p hp => by have := h2 p hp; unfold inB; simp; omega, ?_, ?_, ?_, ?_⟩
    · rw [List.any_eq_true]
      rcases h3 with h | ⟨p, hp, h⟩
      · exact ⟨q, List.mem_cons_self .., by simp; simp only at h; omega⟩
      · exact ⟨p, hp, by simpa using h⟩
    · rw [List.any_eq_true]
      rcases h5 with h | ⟨p, hp, h⟩
      · exact ⟨q, List.mem_cons_self .., by simp; simp only at h; omega⟩
      · exact ⟨p, hp, by simpa using h⟩
    · rw [List.any_eq_true]
      rcases h4 with h | ⟨p, hp, h⟩
      · exact ⟨q, List.mem_cons_self .., by simp; simp only at h; omega⟩
      · exact ⟨p, hp, by simpa using h⟩
    · rw [List.any_eq_true]
      rcases h6 with h | ⟨p, hp, h⟩
      · exact ⟨q, List.mem_cons_self .., by simp; simp only at h; omega⟩
      · exact ⟨p, hp, by simpa using h⟩
theorem any_take_succ (f : Int × Int → Bool) {l : List (Int × Int)} {k : Nat} (h : k < l.length) : (l.take (k + 1)).any f = ((l.take k).any f || f l[k]) := by
  rw [List.take_succ_eq_append_getElem h, List.any_append]; simp
/-- A norm. -/
def nrm (x y : Int) : Int := imax (iabs x) (iabs y)
theorem small_of {x y : Int} (h : withinB x y 268435456 = true) : -268435456 ≤ x ∧ x ≤ 268435456 ∧ -268435456 ≤ y ∧ y ≤ 268435456 := by
  unfold withinB at h
  rw [show wneg 268435456 = -268435456 from by unfold wneg wrap64; omega] at h
  simp only [Bool.and_eq_true, decide_eq_true_eq] at h
  omega
theorem wneg_small {x : Int} (h0 : -268435456 ≤ x) (h1 : x ≤ 268435456) : wneg x = -x := by unfold wneg; exact i64.wrap ⟨by omega, by omega⟩
theorem iabs_spec {x : Int} (h0 : -268435456 * 2 ≤ x) (h1 : x ≤ 268435456 * 2) : x ≤ iabs x ∧ -x ≤ iabs x ∧ (iabs x = x ∨ iabs x = -x) := by
  unfold iabs
  split
  · omega
  · have e : wneg x = -x := by unfold wneg; exact i64.wrap ⟨by omega, by omega⟩
    rw [e]; omega
theorem nrm_spec {x y : Int} (h0 : -268435456 * 2 ≤ x) (h1 : x ≤ 268435456 * 2) (h2 : -268435456 * 2 ≤ y) (h3 : y ≤ 268435456 * 2) :
    x ≤ nrm x y ∧ -x ≤ nrm x y ∧ y ≤ nrm x y ∧ -y ≤ nrm x y ∧ (nrm x y = x ∨ nrm x y = -x ∨ nrm x y = y ∨ nrm x y = -y) := by
  have a := iabs_spec h0 h1
  have b := iabs_spec h2 h3
  unfold nrm imax
  split <;> omega
theorem nrm_facts {x y u v : Int} (h : withinB x y 268435456 = true) (k : withinB u v 268435456 = true) : 0 ≤ nrm x y ∧ nrm x y ≤ 268435456 ∧ (0 ≤ nrm u v ∧ nrm u v ≤ 268435456) ∧ eqv x y 0 0 = (nrm x y == 0) ∧ nrm (wneg x) (wneg y) = nrm x y ∧
    nrm (wadd x u) (wadd y v) ≤ nrm x y + nrm u v ∧ withinB x y (nrm x y) = true := by
  obtain ⟨h1, h2, h3, h4⟩ := small_of h
  obtain ⟨k1, k2, k3, k4⟩ := small_of k
  have e1 : wadd x u = x + u := by unfold wadd; exact i64.wrap ⟨by omega, by omega⟩
  have e2 : wadd y v = y + v := by unfold wadd; exact i64.wrap ⟨by omega, by omega⟩
  rw [e1, e2, wneg_small h1 h2, wneg_small h3 h4]
  have s1 := nrm_spec (x := x) (y := y) (by omega) (by omega) (by omega) (by omega)
  have s2 := nrm_spec (x := u) (y := v) (by omega) (by omega) (by omega) (by omega)
  have s3 := nrm_spec (x := -x) (y := -y) (by omega) (by omega) (by omega) (by omega)
  have s4 := nrm_spec (x := x + u) (y := y + v) (by omega) (by omega) (by omega) (by omega)
  generalize nrm x y = n at *
  generalize nrm u v = m at *
  generalize nrm (-x) (-y) = n' at *
  generalize nrm (x + u) (y + v) = r at *
  refine ⟨by omega, by omega, by omega, ?_, by omega, by omega, ?_⟩
  · by_cases hc : n = 0
    · rw [eqv_iff.2 (by omega), hc]; rfl
    · rw [eqv_false (by omega), beq_eq_false_iff_ne.2 hc]
  · unfold withinB
    rw [wneg_small (by omega) (by omega)]
    simp; omega
theorem maxNorm_is (x y : Int) (w : World) : Gives Try.prog 33 #[vv x y] w (.int .i64 (nrm x y)) := maxNorm_any x y w

abbrev sidesV (a b c d : Bool) : Value := .agg #[.bool a, .bool b, .bool c, .bool d]
theorem equalIn_sides (w : World) : (Op.equalIn 10000 48 (sidesV true true true true) (sidesV true true true true)).run Try.prog w = .ok true w := by
  obtain ⟨i, hi⟩ : ∃ i, Try.prog.info? 4 = some i := ⟨_, rfl⟩
  have hu : Try.prog.underlying 48 = some (.array 4 4) := by kernel_rfl
  have hb : Try.prog.underlying 4 = some .bool := by kernel_rfl
  have hc : Try.prog.cellsOf 4 = 1 := by kernel_rfl
  have hp : Try.prog.plainKey 4 = true := by kernel_rfl
  rw [show (10000 : Nat) = 9999 + 1 from rfl, run_equalIn_array w 9999 _ _ hu hi, hc]
  have hpart : ∀ i, i < 4 → (part 4 #[Value.bool true, Value.bool true, Value.bool true, Value.bool true] (i * 1)).run Try.prog w = .ok (.bool true) w := by
    intro i hi
    refine run_part_plain w hp ?_
    match i, hi with
    | 0, _ => rfl
    | 1, _ => rfl
    | 2, _ => rfl
    | 3, _ => rfl
  have he := run_equalIn_bool (P := Try.prog) w 9998 4 true true hb
  have h0 := hpart 0 (by omega)
  have h1 := hpart 1 (by omega)
  have h2 := hpart 2 (by omega)
  have h3 := hpart 3 (by omega)
  rw [show List.range 4 = [0, 1, 2, 3] from rfl]
  simp only [Op.eqItems, Sem.run_bind, h0, h1, h2, h3, he, Result.andThen_ok, Sem.run_pure, Bool.not_true, Bool.false_eq_true, if_false, beq_self_eq_true]
@[go_sem ↓] theorem eql_sides (w : World) : (binOp .eql 48 (sidesV true true true true) (sidesV true true true true)).run Try.prog w = .ok (.bool true) w := by
  rw [run_eql_struct, equalIn_sides]; rfl
@[go_sem ↓] theorem eqGuard_sides (w : World) (op : BinOp) (x y : Operand) (a b c d e f g h : Bool) : (eqGuard op 48 x y (sidesV a b c d) (sidesV e f g h)).run Try.prog w = .ok () w :=
  run_eqGuard_agg w op _ x y _ _ (by kernel_rfl)
/-- Block g is a variable of four bools. -/
structure IsSides (w : World) (g : Nat) (a b c d : Bool) : Prop where
  c0 : w.cell? ⟨g, 0, none⟩ = some (.bool a)
  c1 : w.cell? ⟨g, 1, none⟩ = some (.bool b)
  c2 : w.cell? ⟨g, 2, none⟩ = some (.bool c)
  c3 : w.cell? ⟨g, 3, none⟩ = some (.bool d)
  f0 : w.frozen? ⟨g, 0, none⟩ = false
  f1 : w.frozen? ⟨g, 1, none⟩ = false
  f2 : w.frozen? ⟨g, 2, none⟩ = false
  f3 : w.frozen? ⟨g, 3, none⟩ = false
  there : Nonempty (Old w g)
theorem IsSides.of {w w' : World} {g : Nat} {a b c d : Bool} (h : IsSides w g a b c d) (hs : SinceOf w w') : IsSides w' g a b c d := by
  obtain ⟨z, rfl⟩ := hs
  have := h.there
  exact ⟨by rw [Since.cell]; exact h.c0, by rw [Since.cell]; exact h.c1, by rw [Since.cell]; exact h.c2, by rw [Since.cell]; exact h.c3, by rw [Since.frozen]; exact h.f0, by rw [Since.frozen]; exact h.f1, by rw [Since.frozen]; exact h.f2, by rw [Since.frozen]; exact h.f3, inferInstance⟩
/-- What a round reads: the vector k, the first vector, the box. -/
structure BoxView (w : World) (g off k gb : Nat) (x y p0 q0 b0 b1 b2 b3 : Int) : Prop where
  v0 : w.cell? ⟨g, off + k * 2, none⟩ = some (.int .i64 x)
  v1 : w.cell? ⟨g, off + k * 2 + 1, none⟩ = some (.int .i64 y)
  c0 : w.cell? ⟨g, off, none⟩ = some (.int .i64 p0)
  c1 : w.cell? ⟨g, off + 1, none⟩ = some (.int .i64 q0)
  d0 : w.cell? ⟨gb, 0, none⟩ = some (.int .i64 b0)
  d1 : w.cell? ⟨gb, 1, none⟩ = some (.int .i64 b1)
  d2 : w.cell? ⟨gb, 2, none⟩ = some (.int .i64 b2)
  d3 : w.cell? ⟨gb, 3, none⟩ = some (.int .i64 b3)
  og : Nonempty (Old w g)
  ob : Nonempty (Old w gb)
theorem BoxView.of {w w' : World} {g off k gb : Nat} {x y p0 q0 b0 b1 b2 b3 : Int} (h : BoxView w g off k gb x y p0 q0 b0 b1 b2 b3) (hs : SinceOf w w') : BoxView w' g off k gb x y p0 q0 b0 b1 b2 b3 := by
  obtain ⟨z, rfl⟩ := hs
  have h1 := h.og
  have h2 := h.ob
  exact ⟨by rw [Since.cell]; exact h.v0, by rw [Since.cell]; exact h.v1, by rw [Since.cell]; exact h.c0, by rw [Since.cell]; exact h.c1, by rw [Since.cell]; exact h.d0, by rw [Since.cell]; exact h.d1, by rw [Since.cell]; exact h.d2, by rw [Since.cell]; exact h.d3, inferInstance, inferInstance⟩
theorem IsSides.set0 {w : World} {g : Nat} {a b c d : Bool} (h : IsSides w g a b c d) (v : Bool) : IsSides (w.setCell ⟨g, 0, none⟩ (.bool v)).drew g v b c d := by
  obtain ⟨C0, C1, C2, C3, F0, F1, F2, F3, hO⟩ := h
  exact ⟨by simp [go_sem, *], by simp [go_sem, *], by simp [go_sem, *], by simp [go_sem, *], by simp [go_sem, *], by simp [go_sem, *], by simp [go_sem, *], by simp [go_sem, *], inferInstance⟩
theorem IsSides.set1 {w : World} {g : Nat} {a b c d : Bool} (h : IsSides w g a b c d) (v : Bool) : IsSides (w.setCell ⟨g, 1, none⟩ (.bool v)).drew g a v c d := by
  obtain ⟨C0, C1, C2, C3, F0, F1, F2, F3, hO⟩ := h
  exact ⟨by simp [go_sem, *], by simp [go_sem, *], by simp [go_sem, *], by simp [go_sem, *], by simp [go_sem, *], by simp [go_sem, *], by simp [go_sem, *], by simp [go_sem, *], inferInstance⟩
theorem IsSides.set2 {w : World} {g : Nat} {a b c d : Bool} (h : IsSides w g a b c d) (v : Bool) : IsSides (w.setCell ⟨g, 2, none⟩ (.bool v)).drew g a b v d := by
  obtain ⟨C0, C1, C2, C3, F0, F1, F2, F3, hO⟩ := h
  exact ⟨by simp [go_sem, *], by simp [go_sem, *], by simp [go_sem, *], by simp [go_sem, *], by simp [go_sem, *], by simp [go_sem, *], by simp [go_sem, *], by simp [go_sem, *], inferInstance⟩
theorem IsSides.set3 {w : World} {g : Nat} {a b c d : Bool} (h : IsSides w g a b c d) (v : Bool) : IsSides (w.setCell ⟨g, 3, none⟩ (.bool v)).drew g a b c v := by
  obtain ⟨C0, C1, C2, C3, F0, F1, F2, F3, hO⟩ := h
  exact ⟨by simp [go_sem, *], by simp [go_sem, *], by simp [go_sem, *], by simp [go_sem, *], by simp [go_sem, *], by simp [go_sem, *], by simp [go_sem, *], by simp [go_sem, *], inferInstance⟩

set_option maxRecDepth 100000 in
set_option maxHeartbeats 8000000 in
theorem vecBox_any (A : Option Addr) (c : Nat) (l : List (Int × Int)) (w : World) (hl : IsVecs w A c l) : Yields Try.prog 10 #[.slice A l.length c] w (.bool true) := by
  apply Yields.ret
  have hcase : l.length = 0 ∨ 40 < l.length ∨ (0 < l.length ∧ l.length ≤ 40) := by omega
  rcases hcase with h0 | h41 | ⟨hlen, h40⟩
  · obtain rfl : l = [] := List.eq_nil_of_length_eq_zero h0
    clear hl h0
    go_enter Try.func10, Try.ntmps10
    go_wp2_with fail
    refine (awake_any _).calls.mono ?_
    rintro e _ ⟨rfl, x1, rfl⟩
    go_wp2_with fail
    go_returns
    exact ⟨rfl, by (repeat (first | (with_reducible exact SinceOf.refl _) | (with_reducible assumption) | (with_reducible refine SinceOf.alloc ?_ _) | (with_reducible refine SinceOf.drew ?_) | (with_reducible refine SinceOf.drewN ?_ _) | (with_reducible refine SinceOf.later ?_ _) | (with_reducible refine SinceOf.further ?_ _) | (with_reducible refine SinceOf.setCell ?_ (by first | exact Nat.le_refl _ | (simp; done) | omega | (simp; omega)) _)))⟩
  · clear hl
    have hl0 : ((l.length : Int) == 0) = false := by rw [beq_eq_false_iff_ne]; omega
    go_enter Try.func10, Try.ntmps10
    go_wp2_with fail
    refine (awake_any _).calls.mono ?_
    rintro e _ ⟨rfl, x1, rfl⟩
    go_wp2_with fail
    go_returns
    exact ⟨rfl, by (repeat (first | (with_reducible exact SinceOf.refl _) | (with_reducible assumption) | (with_reducible refine SinceOf.alloc ?_ _) | (with_reducible refine SinceOf.drew ?_) | (with_reducible refine SinceOf.drewN ?_ _) | (with_reducible refine SinceOf.later ?_ _) | (with_reducible refine SinceOf.further ?_ _) | (with_reducible refine SinceOf.setCell ?_ (by first | exact Nat.le_refl _ | (simp; done) | omega | (simp; omega)) _)))⟩
  · have B1 := fun W hW => boxOf_any A c l W (hl.of hW) (by omega)
    have hspec := boxOf_spec hlen
    generalize boxOf l = bx at *
    obtain ⟨b0, b1, b2, b3⟩ := bx
    simp only at B1 hspec
    obtain ⟨hin, a0, a1, a2, a3⟩ := hspec
    rw [show (!l.isEmpty) = true from by cases l <;> simp at hlen ⊢] at B1
    have hl0 : ((l.length : Int) == 0) = false := by rw [beq_eq_false_iff_ne]; omega
    obtain ⟨g, off, rfl, hr⟩ := hl.at_ hlen
    have H := Lib.hid (And.intro hr (And.intro hin (And.intro a0 (And.intro a1 (And.intro a2 a3)))))
    clear hl hr hin a0 a1 a2 a3
    go_enter Try.func10, Try.ntmps10
    go_wp2_with fail
    refine (awake_any _).calls.mono ?_
    rintro e _ ⟨rfl, x1, rfl⟩
    go_wp2_with fail
    refine (B1 _ (by (repeat (first | (with_reducible exact SinceOf.refl _) | (with_reducible assumption) | (with_reducible refine SinceOf.alloc ?_ _) | (with_reducible refine SinceOf.drew ?_) | (with_reducible refine SinceOf.drewN ?_ _) | (with_reducible refine SinceOf.later ?_ _) | (with_reducible refine SinceOf.further ?_ _) | (with_reducible refine SinceOf.setCell ?_ (by first | exact Nat.le_refl _ | (simp; done) | omega | (simp; omega)) _))))).calls.mono ?_
    rintro e _ ⟨rfl, x2, rfl⟩
    clear B1
    go_wp2_with fail
    have hO2 : Nonempty (Old x2.wd g) := (H.out.1.of (by (repeat (first | (with_reducible exact SinceOf.refl _) | (with_reducible assumption) | (with_reducible refine SinceOf.alloc ?_ _) | (with_reducible refine SinceOf.drew ?_) | (with_reducible refine SinceOf.drewN ?_ _) | (with_reducible refine SinceOf.later ?_ _) | (with_reducible refine SinceOf.further ?_ _) | (with_reducible refine SinceOf.setCell ?_ (by first | exact Nat.le_refl _ | (simp; done) | omega | (simp; omega)) _))))).there
    generalize hB : x2.wd.alloc (.cells #[.int .i64 b0, .int .i64 b1, .int .i64 b2, .int .i64 b3] 41) = B
    have hBs : SinceOf w B := by rw [← hB]; (repeat (first | (with_reducible exact SinceOf.refl _) | (with_reducible assumption) | (with_reducible refine SinceOf.alloc ?_ _) | (with_reducible refine SinceOf.drew ?_) | (with_reducible refine SinceOf.drewN ?_ _) | (with_reducible refine SinceOf.later ?_ _) | (with_reducible refine SinceOf.further ?_ _) | (with_reducible refine SinceOf.setCell ?_ (by first | exact Nat.le_refl _ | (simp; done) | omega | (simp; omega)) _)))
    have hBz : x2.wd.heap.size + 1 = B.heap.size := by rw [← hB]; simp
    have hB0 : IsBox B x2.wd.heap.size b0 b1 b2 b3 := by rw [← hB]; exact ⟨by simp [go_sem], by simp [go_sem], by simp [go_sem], by simp [go_sem], by simp [go_sem], by simp [go_sem], by simp [go_sem], by simp [go_sem], inferInstance⟩
    generalize hgb : x2.wd.heap.size = gb at *
    have hgl : g < gb := by rw [← hgb]; exact hO2.elim fun h => h.lt
    rw [show gb + 1 = B.heap.size from hBz]
    generalize hgs : B.heap.size = gs at *
    have hap1 : Nonempty (Apart g gs) := ⟨⟨by omega⟩⟩
    have hap2 : Nonempty (Apart gb gs) := ⟨⟨by omega⟩⟩
    obtain ⟨⟨p0, q0⟩, hp⟩ : ∃ q, q = l[0] := ⟨_, rfl⟩
    have HB := Lib.hid (And.intro hBs (And.intro hB0 (And.intro hgs hp)))
    clear hBs hB0 hp hO2
    go_loopg [6] l.length (fun gas s6 wr => ∃ k : Nat, k ≤ l.length ∧ l.length - k ≤ gas ∧ s6 = .int .i64 k ∧ IsSides wr gs ((l.take k).any (fun p => p.1 == b0)) ((l.take k).any (fun p => p.1 == b2)) ((l.take k).any (fun p => p.2 == b1)) ((l.take k).any (fun p => p.2 == b3)) ∧ LaterOf B wr ∧ (k = 0 ∨ withinB p0 q0 268435456 = true))
    case atStart => exact ⟨0, by omega, by omega, rfl, by subst hgs; exact ⟨by simp [go_sem], by simp [go_sem], by simp [go_sem], by simp [go_sem], by simp [go_sem], by simp [go_sem], by simp [go_sem], by simp [go_sem], inferInstance⟩, by (repeat (first | (with_reducible exact LaterOf.refl _) | (with_reducible refine LaterOf.alloc ?_ _) | (with_reducible refine LaterOf.drew ?_) | (with_reducible refine LaterOf.drewN ?_ _) | (with_reducible refine LaterOf.later ?_ _) | (with_reducible refine LaterOf.setCell ?_ (by first | exact Nat.le_refl _ | (simp; done) | omega | (simp; omega)) _))), .inl rfl⟩
    case round =>
      obtain ⟨k, hk, hgas, rfl, hs, hz, hp0⟩ := hrel
      by_cases hlt : k < l.length
      · have hrz := H.out.1.of (HB.out.1.trans hz.since)
        have v0 := hrz.v0 k hlt
        have v1 := hrz.v1 k hlt
        have c0 := hrz.v0 0 hlen
        have c1 := hrz.v1 0 hlen
        have hOz := hrz.there
        have hbz := HB.out.2.1.of hz.since
        have t0 := any_take_succ (fun p => p.1 == b0) hlt
        have t1 := any_take_succ (fun p => p.1 == b2) hlt
        have t2 := any_take_succ (fun p => p.2 == b1) hlt
        have t3 := any_take_succ (fun p => p.2 == b3) hlt
        generalize (l.take k).any (fun p => p.1 == b0) = s0 at *
        generalize (l.take k).any (fun p => p.1 == b2) = s1 at *
        generalize (l.take k).any (fun p => p.2 == b1) = s2 at *
        generalize (l.take k).any (fun p => p.2 == b3) = s3 at *
        have hin := H.out.2.1 l[k] (List.getElem_mem hlt)
        have hp1 : k = 0 → (p0, q0) = l[k] := fun h => by subst h; exact HB.out.2.2.2
        rw [← HB.out.2.2.2] at c0 c1
        obtain ⟨⟨x, y⟩, hq⟩ : ∃ q, q = l[k] := ⟨_, rfl⟩
        rw [← hq] at v0 v1 hin t0 t1 t2 t3 hp1
        simp only [Nat.zero_mul, Nat.add_zero] at v0 v1 c0 c1 hin t0 t1 t2 t3
        have HK := Lib.hid (And.intro hq (And.intro hs (And.intro hz (And.intro t0 (And.intro t1 (And.intro t2 t3))))))
        have hview : BoxView B g off k gb x y p0 q0 b0 b1 b2 b3 := by
          have hr0 := H.out.1.of HB.out.1
          have u0 := hr0.v0 k hlt
          have u1 := hr0.v1 k hlt
          have e0 := hr0.v0 0 hlen
          have e1 := hr0.v1 0 hlen
          rw [← hq] at u0 u1
          rw [← HB.out.2.2.2] at e0 e1
          simp only [Nat.zero_mul, Nat.add_zero] at e0 e1
          obtain ⟨D0, D1, D2, D3, -, -, -, -, hO3⟩ := HB.out.2.1
          exact ⟨u0, u1, e0, e1, D0, D1, D2, D3, hr0.there, hO3⟩
        obtain ⟨C0, C1, C2, C3, F0, F1, F2, F3, hO1⟩ := hs
        obtain ⟨D0, D1, D2, D3, -, -, -, -, hO3⟩ := hbz
        have IN := fun W => inBox_any b0 b1 b2 b3 x y W
        rw [hin] at IN
        have WI := fun W => refWithin_any x y 268435456 W
        obtain ⟨z, rfl⟩ := hz
        clear hrz t0 t1 t2 t3 hq hin
        cases hw : withinB x y 268435456
        · rw [hw] at WI
          go_wp2_with fail
          refine (WI _).calls.mono ?_
          rintro e _ ⟨rfl, z2, rfl⟩
          go_wp2_with fail
          go_returns
          refine ⟨rfl, ?_⟩
          exact (HB.out.1.later z).later z2
        · have hw0 : withinB p0 q0 268435456 = true := by
            rcases hp0 with h | h
            · have := hp1 h; injection this with e1 e2; rw [e1, e2]; exact hw
            · exact h
          obtain ⟨n0, n1, ⟨n2, n3⟩, n4, n5, n6, n7⟩ := nrm_facts hw hw0
          rw [hw] at WI
          have HW := Lib.hid hw0
          clear hw hw0 hp1 hp0
          go_wp2_with fail
          refine (WI _).calls.mono ?_
          rintro e _ ⟨rfl, z2, rfl⟩
          go_wp2_with fail
          refine region_later (by kernel_rfl) (by kernel_rfl) ?_
          repeat (go_big_quiet_step ((with_reducible refine Gives.later (IN _))))
          refine wpQuiet_nil ?_
          rintro _ ⟨z3, rfl⟩
          go_upto_region 14 with fail
          have hz3 : LaterOf B z3.wd := by (repeat (first | (with_reducible exact LaterOf.refl _) | (with_reducible refine LaterOf.alloc ?_ _) | (with_reducible refine LaterOf.drew ?_) | (with_reducible refine LaterOf.drewN ?_ _) | (with_reducible refine LaterOf.later ?_ _) | (with_reducible refine LaterOf.setCell ?_ (by first | exact Nat.le_refl _ | (simp; done) | omega | (simp; omega)) _)))
          have hs3 := HK.out.2.1.of (LaterOf.since ((⟨z3, rfl⟩ : LaterOf z2.wd z3.wd)) |> fun h => (SinceOf.later (SinceOf.refl z.wd) z2).trans h)
          have HV := Lib.hid hview
          clear v0 v1 c0 c1 C0 C1 C2 C3 F0 F1 F2 F3 D0 D1 D2 D3 hO1 hO3 hOz IN WI hview
          generalize z3.wd = wx at *
          go_cut [6] (fun s6 wy => s6 = .int .i64 k ∧ IsSides wy gs (s0 || x == b0) s1 s2 s3 ∧ LaterOf B wy)
          case first =>
            have HS := Lib.hid (And.intro hs3 hz3)
            obtain ⟨C0, C1, C2, C3, F0, F1, F2, F3, hO1⟩ := hs3
            obtain ⟨v0, v1, c0, c1, D0, D1, D2, D3, hOz, hO3⟩ := HV.out.of hz3.since
            clear hz3
            cases s0
            · go_big_region
              go_wp2_with fail
              go_meet
              exact ⟨rfl, by simpa using HS.out.1.set0 (x == b0), (HS.out.2.setCell (by rw [HB.out.2.2.1]; exact Nat.le_refl _) _).drew⟩
            · go_big_region
              go_wp2_with fail
              go_meet
              exact ⟨rfl, by simpa using HS.out.1.set0 true, (HS.out.2.setCell (by rw [HB.out.2.2.1]; exact Nat.le_refl _) _).drew⟩
          case rest =>
            clear hs3 hz3
            obtain ⟨rfl, hs3, hz3⟩ := hcut
            go_upto_region 15 with fail
            go_cut [6] (fun s6 wy => s6 = .int .i64 k ∧ IsSides wy gs (s0 || x == b0) (s1 || x == b2) s2 s3 ∧ LaterOf B wy)
            case first =>
              have HS := Lib.hid (And.intro hs3 hz3)
              obtain ⟨C0, C1, C2, C3, F0, F1, F2, F3, hO1⟩ := hs3
              obtain ⟨v0, v1, c0, c1, D0, D1, D2, D3, hOz, hO3⟩ := HV.out.of hz3.since
              clear hz3
              cases s1
              · go_big_region
                go_wp2_with fail
                go_meet
                exact ⟨rfl, by simpa using HS.out.1.set1 (x == b2), (HS.out.2.setCell (by rw [HB.out.2.2.1]; exact Nat.le_refl _) _).drew⟩
              · go_big_region
                go_wp2_with fail
                go_meet
                exact ⟨rfl, by simpa using HS.out.1.set1 true, (HS.out.2.setCell (by rw [HB.out.2.2.1]; exact Nat.le_refl _) _).drew⟩
            case rest =>
              clear hs3 hz3
              obtain ⟨rfl, hs3, hz3⟩ := hcut
              go_upto_region 16 with fail
              go_cut [6] (fun s6 wy => s6 = .int .i64 k ∧ IsSides wy gs (s0 || x == b0) (s1 || x == b2) (s2 || y == b1) s3 ∧ LaterOf B wy)
              case first =>
                have HS := Lib.hid (And.intro hs3 hz3)
                obtain ⟨C0, C1, C2, C3, F0, F1, F2, F3, hO1⟩ := hs3
                obtain ⟨v0, v1, c0, c1, D0, D1, D2, D3, hOz, hO3⟩ := HV.out.of hz3.since
                clear hz3
                cases s2
                · go_big_region
                  go_wp2_with fail
                  go_meet
                  exact ⟨rfl, by simpa using HS.out.1.set2 (y == b1), (HS.out.2.setCell (by rw [HB.out.2.2.1]; exact Nat.le_refl _) _).drew⟩
                · go_big_region
                  go_wp2_with fail
                  go_meet
                  exact ⟨rfl, by simpa using HS.out.1.set2 true, (HS.out.2.setCell (by rw [HB.out.2.2.1]; exact Nat.le_refl _) _).drew⟩
              case rest =>
                clear hs3 hz3
                obtain ⟨rfl, hs3, hz3⟩ := hcut
                go_upto_region 17 with fail
                go_cut [6] (fun s6 wy => s6 = .int .i64 k ∧ IsSides wy gs (s0 || x == b0) (s1 || x == b2) (s2 || y == b1) (s3 || y == b3) ∧ LaterOf B wy)
                case first =>
                  have HS := Lib.hid (And.intro hs3 hz3)
                  obtain ⟨C0, C1, C2, C3, F0, F1, F2, F3, hO1⟩ := hs3
                  obtain ⟨v0, v1, c0, c1, D0, D1, D2, D3, hOz, hO3⟩ := HV.out.of hz3.since
                  clear hz3
                  cases s3
                  · go_big_region
                    go_wp2_with fail
                    go_meet
                    exact ⟨rfl, by simpa using HS.out.1.set3 (y == b3), (HS.out.2.setCell (by rw [HB.out.2.2.1]; exact Nat.le_refl _) _).drew⟩
                  · go_big_region
                    go_wp2_with fail
                    go_meet
                    exact ⟨rfl, by simpa using HS.out.1.set3 true, (HS.out.2.setCell (by rw [HB.out.2.2.1]; exact Nat.le_refl _) _).drew⟩
                case rest =>
                  clear hs3 hz3
                  obtain ⟨rfl, hs3, hz3⟩ := hcut
                  rw [← HK.out.2.2.2.1, ← HK.out.2.2.2.2.1, ← HK.out.2.2.2.2.2.1, ← HK.out.2.2.2.2.2.2] at hs3
                  obtain ⟨z5, rfl⟩ := hz3
                  obtain ⟨v0, v1, c0, c1, -, -, -, -, hOz, -⟩ := HV.out.of (LaterOf.since ⟨z5, rfl⟩)
                  have HS := Lib.hid hs3
                  clear hs3 n2 n3
                  have M1 := fun W => maxNorm_is x y W
                  have M2 := fun W => maxNorm_is p0 q0 W
                  have M3 := fun W => maxNorm_is (wneg x) (wneg y) W
                  have M4 := fun W => maxNorm_is (wadd x p0) (wadd y q0) W
                  have WI := fun W => within_any x y (nrm x y) W
                  rw [n5] at M3
                  rw [n7] at WI
                  have nm : nrm p0 q0 ≤ 268435456 ∧ 0 ≤ nrm p0 q0 := by have := nrm_facts HW.out HW.out; omega
                  generalize nrm x y = nn at *
                  generalize nrm p0 q0 = mm at *
                  generalize nrm (wadd x p0) (wadd y q0) = rr at *
                  obtain ⟨m1, m2⟩ := nm
                  have f0 : decide (nn < 0) = false := by simp; omega
                  have f1 : decide (nn + mm < rr) = false := by simp; omega
                  clear n5 n7
                  go_wp2_with fail
                  refine region_later (by kernel_rfl) (by kernel_rfl) ?_
                  repeat (go_big_quiet_step ((first | (with_reducible refine Gives.later (M1 _)) | (with_reducible refine Gives.later (M2 _)))))
                  refine wpQuiet_nil ?_
                  rintro _ ⟨z6, rfl⟩
                  go_wp2_with fail
                  refine region_later (by kernel_rfl) (by kernel_rfl) ?_
                  repeat (go_big_quiet_step ((first | (with_reducible refine Gives.later (M1 _)) | (with_reducible refine Gives.later (M3 _)) | (with_reducible refine Gives.later (M4 _)) | (with_reducible refine Gives.later (WI _)) | (with_reducible refine Gives.later (neg_any _ _ _)) | (with_reducible refine Gives.later (add_any _ _ _ _ _)))))
                  refine wpQuiet_nil ?_
                  rintro _ ⟨z7, rfl⟩
                  go_wp2_with fail
                  go_roundg (l.length - (k + 1))
                  case measure => omega
                  case rel => exact ⟨k + 1, hlt, Nat.le_refl _, by go_num, HS.out.of (by (repeat (first | (with_reducible exact SinceOf.refl _) | (with_reducible assumption) | (with_reducible refine SinceOf.alloc ?_ _) | (with_reducible refine SinceOf.drew ?_) | (with_reducible refine SinceOf.drewN ?_ _) | (with_reducible refine SinceOf.later ?_ _) | (with_reducible refine SinceOf.further ?_ _) | (with_reducible refine SinceOf.setCell ?_ (by first | exact Nat.le_refl _ | (simp; done) | omega | (simp; omega)) _)))), by (repeat (first | (with_reducible exact LaterOf.refl _) | (with_reducible refine LaterOf.alloc ?_ _) | (with_reducible refine LaterOf.drew ?_) | (with_reducible refine LaterOf.drewN ?_ _) | (with_reducible refine LaterOf.later ?_ _) | (with_reducible refine LaterOf.setCell ?_ (by first | exact Nat.le_refl _ | (simp; done) | omega | (simp; omega)) _))), .inr HW.out⟩
      · have hkl : k = l.length := by omega
        rw [hkl, List.take_length, H.out.2.2.1, H.out.2.2.2.1, H.out.2.2.2.2.1, H.out.2.2.2.2.2] at hs
        subst hkl
        obtain ⟨z, rfl⟩ := hz
        obtain ⟨C0, C1, C2, C3, F0, F1, F2, F3, hO1⟩ := hs
        go_wp2_with fail
        go_returns
        exact ⟨rfl, HB.out.1.later z⟩
end Go.Proofs.Ytpehkfnehgcjmaa
