/- The walk of the law VecOrder of layer 6. -/
import Derived.Test.YtpehkfnehgcjmaaArr
namespace Go.Proofs.Ytpehkfnehgcjmaa
open Go.RowKit
set_option linter.unusedVariables false
attribute [local go_sem ↓] Go.wp_at_zero Go.wp_at_succ

set_option maxRecDepth 100000 in
set_option maxHeartbeats 16000000 in
theorem vecOrder_any (a0 a1 b0 b1 c0 c1 d0 d1 : Int) (w : World) : Yields Try.prog 6 #[.agg #[.int .i64 a0, .int .i64 a1, .int .i64 b0, .int .i64 b1, .int .i64 c0, .int .i64 c1, .int .i64 d0, .int .i64 d1]] w (.bool true) := by
  apply Yields.ret
  by_cases hs : (withinB a0 a1 268435456 && (withinB b0 b1 268435456 && (withinB c0 c1 268435456 && withinB d0 d1 268435456))) = true
  · have hw := hs
    simp only [Bool.and_eq_true] at hw
    obtain ⟨w1, w2, w3, w4⟩ := hw
    have HB := Lib.hid (And.intro (within_spec w1) (And.intro (within_spec w2) (And.intro (within_spec w3) (within_spec w4))))
    clear w1 w2 w3 w4
    generalize hS : (withinB a0 a1 268435456 && (withinB b0 b1 268435456 && (withinB c0 c1 268435456 && withinB d0 d1 268435456))) = S at hs
    subst hs
    go_enter Try.func6, Try.ntmps6
    go_wp2_with fail
    refine (awake_any _).calls.mono ?_
    rintro e _ ⟨rfl, x1, rfl⟩
    go_wp2_with fail
    have hsm := small_any a0 a1 b0 b1 c0 c1 d0 d1 x1.wd
    rw [hS] at hsm
    clear hS
    refine hsm.calls.mono ?_
    rintro e _ ⟨rfl, x2, rfl⟩
    clear hsm
    go_upto_region 5 with fail
    go_cut [3, 4, 5, 6] (fun s3 s4 s5 s6 wx => ∃ ga gb gc gd : Nat, s3 = .pointer (some ⟨ga, 0, none⟩) ∧ s4 = .pointer (some ⟨gb, 0, none⟩) ∧ s5 = .pointer (some ⟨gc, 0, none⟩) ∧ s6 = .pointer (some ⟨gd, 0, none⟩) ∧
      IsVec wx ga a0 a1 ∧ IsVec wx gb b0 b1 ∧ IsVec wx gc c0 c1 ∧ IsVec wx gd d0 d1 ∧ LaterOf x2.wd wx)
    case first =>
      clear HB
      go_region_held3 (fun w' => w'.cell? ⟨w.heap.size, 0, none⟩ = some (.int .i64 a0) ∧ w'.cell? ⟨w.heap.size, 1, none⟩ = some (.int .i64 a1) ∧ w'.cell? ⟨w.heap.size, 2, none⟩ = some (.int .i64 b0) ∧ w'.cell? ⟨w.heap.size, 3, none⟩ = some (.int .i64 b1)
        ∧ w'.cell? ⟨w.heap.size, 4, none⟩ = some (.int .i64 c0) ∧ w'.cell? ⟨w.heap.size, 5, none⟩ = some (.int .i64 c1) ∧ w'.cell? ⟨w.heap.size, 6, none⟩ = some (.int .i64 d0) ∧ w'.cell? ⟨w.heap.size, 7, none⟩ = some (.int .i64 d1)) ((simp [go_sem, *])) (fail)
      all_goals (go_wp2_with fail; go_meet; exact ⟨_, _, _, _, rfl, rfl, rfl, rfl, ⟨by simp [go_sem], by simp [go_sem], by simp [go_sem], by simp [go_sem], inferInstance⟩, ⟨by simp [go_sem], by simp [go_sem], by simp [go_sem], by simp [go_sem], inferInstance⟩, ⟨by simp [go_sem], by simp [go_sem], by simp [go_sem], by simp [go_sem], inferInstance⟩, ⟨by simp [go_sem], by simp [go_sem], by simp [go_sem], by simp [go_sem], inferInstance⟩, by (repeat (first | (with_reducible exact LaterOf.refl _) | (with_reducible refine LaterOf.alloc ?_ _) | (with_reducible refine LaterOf.drew ?_) | (with_reducible refine LaterOf.drewN ?_ _) | (with_reducible refine LaterOf.later ?_ _) | (with_reducible refine LaterOf.setCell ?_ (by first | exact Nat.le_refl _ | (simp; done) | omega | (simp; omega)) _)))⟩)
    case rest =>
      obtain ⟨ga, gb, gc, gd, rfl, rfl, rfl, rfl, ha, hb, hc, hd, ⟨x3, rfl⟩⟩ := hcut
      obtain ⟨ha0, ha1, -, -, ha4⟩ := ha
      obtain ⟨hb0, hb1, -, -, hb4⟩ := hb
      obtain ⟨hc0, hc1, -, -, hc4⟩ := hc
      obtain ⟨hd0, hd1, -, -, hd4⟩ := hd
      obtain ⟨⟨A1, A2⟩, ⟨B1, B2⟩, ⟨C1, C2⟩, ⟨D1, D2⟩⟩ := HB.out
      clear HB
      have E1 := vcmp_swap a0 a1 b0 b1
      have E2 := vcmp_zero a0 a1 b0 b1
      have E3 := vcmp_moved A1 A2 B1 B2 D1 D2
      obtain ⟨E5, E6⟩ := vcmp_range a0 a1 b0 b1
      have key : (decide (0 < vcmp a0 a1 b0 b1) = true) ∨ (decide (0 < vcmp a0 a1 b0 b1) = false ∧ decide (0 < vcmp b0 b1 c0 c1) = true) ∨ (decide (0 < vcmp a0 a1 b0 b1) = false ∧ decide (0 < vcmp b0 b1 c0 c1) = false ∧ decide (vcmp a0 a1 c0 c1 ≤ 0) = true) := by
        by_cases h1 : 0 < vcmp a0 a1 b0 b1
        · exact .inl (by simp [h1])
        · by_cases h2 : 0 < vcmp b0 b1 c0 c1
          · exact .inr (.inl (by simp [h1, h2]))
          · have := vcmp_trans (a := a0) (b := a1) (c := b0) (d := b1) (e := c0) (f := c1) (by omega) (by omega)
            exact .inr (.inr (by simp [h1, h2, this]))
      clear A1 A2 B1 B2 C1 C2 D1 D2
      rcases key with k1 | ⟨k1, k2⟩ | ⟨k1, k2, k3⟩
      all_goals
        go_wp2_with fail
        refine region_later (by kernel_rfl) (by kernel_rfl) ?_
        repeat (go_big_quiet_step ((first | refine Gives.later (compare_any _ _ _ _ _))))
        refine wpQuiet_nil ?_
        rintro _ ⟨x4, rfl⟩
        go_wp2_with fail
        refine region_later (by kernel_rfl) (by kernel_rfl) ?_
        repeat (go_big_quiet_step ((first | refine Gives.later (add_any _ _ _ _ _) | refine Gives.later (compare_any _ _ _ _ _) | refine Gives.later (less_any _ _ _ _ _))))
        refine wpQuiet_nil ?_
        rintro _ ⟨x5, rfl⟩
        go_wp2_with fail
        go_returns
        exact ⟨rfl, by (repeat (first | (with_reducible exact SinceOf.refl _) | (with_reducible assumption) | (with_reducible refine SinceOf.alloc ?_ _) | (with_reducible refine SinceOf.drew ?_) | (with_reducible refine SinceOf.drewN ?_ _) | (with_reducible refine SinceOf.later ?_ _) | (with_reducible refine SinceOf.further ?_ _) | (with_reducible refine SinceOf.setCell ?_ (by first | exact Nat.le_refl _ | (simp; done) | omega | (simp; omega)) _)))⟩
  · have hS : (withinB a0 a1 268435456 && (withinB b0 b1 268435456 && (withinB c0 c1 268435456 && withinB d0 d1 268435456))) = false := by simpa using hs
    clear hs
    generalize hT : (withinB a0 a1 268435456 && (withinB b0 b1 268435456 && (withinB c0 c1 268435456 && withinB d0 d1 268435456))) = S at hS
    subst hS
    go_enter Try.func6, Try.ntmps6
    go_wp2_with fail
    refine (awake_any _).calls.mono ?_
    rintro e _ ⟨rfl, x1, rfl⟩
    go_wp2_with fail
    have hsm := small_any a0 a1 b0 b1 c0 c1 d0 d1 x1.wd
    rw [hT] at hsm
    clear hT
    refine hsm.calls.mono ?_
    rintro e _ ⟨rfl, x2, rfl⟩
    clear hsm
    go_wp2_with fail
    go_returns
    exact ⟨rfl, by (repeat (first | (with_reducible exact SinceOf.refl _) | (with_reducible assumption) | (with_reducible refine SinceOf.alloc ?_ _) | (with_reducible refine SinceOf.drew ?_) | (with_reducible refine SinceOf.drewN ?_ _) | (with_reducible refine SinceOf.later ?_ _) | (with_reducible refine SinceOf.further ?_ _) | (with_reducible refine SinceOf.setCell ?_ (by first | exact Nat.le_refl _ | (simp; done) | omega | (simp; omega)) _)))⟩

end Go.Proofs.Ytpehkfnehgcjmaa
