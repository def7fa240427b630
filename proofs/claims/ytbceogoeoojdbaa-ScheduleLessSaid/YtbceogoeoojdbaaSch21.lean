/- Layer 52: the walk of ScheduleLess, given that the example holds. -/
import Derived.Test.YtbceogoeoojdbaaSch20
namespace Go.Proofs.Ytbceogoeoojdbaa
open Go.RowKit Go.Sort
set_option linter.unusedVariables false
attribute [local go_sem ↓] Go.wp_at_zero Go.wp_at_succ

structure CostAt (w : World) (g : Nat) (a b c d : Int) : Prop where
  c0 : w.cell? ⟨g, 0, none⟩ = some (.int .i64 a)
  c1 : w.cell? ⟨g, 1, none⟩ = some (.int .i64 b)
  c2 : w.cell? ⟨g, 2, none⟩ = some (.int .i64 c)
  c3 : w.cell? ⟨g, 3, none⟩ = some (.int .i64 d)
  there : Nonempty (Old w g)
theorem lessC_trans {a0 a1 a2 a3 b0 b1 b2 b3 c0 c1 c2 c3 : Int} (h : lessC a0 a1 a2 a3 b0 b1 b2 b3 = true) (k : lessC b0 b1 b2 b3 c0 c1 c2 c3 = true) : lessC a0 a1 a2 a3 c0 c1 c2 c3 = true := by
  rcases lessC_cases a0 a1 a2 a3 b0 b1 b2 b3 with ⟨h0, e⟩ | ⟨h0, h1, e⟩ | ⟨h0, h1, h2, e⟩ | ⟨h0, h1, h2, e⟩ <;> rcases lessC_cases b0 b1 b2 b3 c0 c1 c2 c3 with ⟨g0, f⟩ | ⟨g0, g1, f⟩ | ⟨g0, g1, g2, f⟩ | ⟨g0, g1, g2, f⟩ <;> rcases lessC_cases a0 a1 a2 a3 c0 c1 c2 c3 with ⟨i0, j⟩ | ⟨i0, i1, j⟩ | ⟨i0, i1, i2, j⟩ | ⟨i0, i1, i2, j⟩ <;> rw [e] at h <;> rw [f] at k <;> rw [j] <;> simp only [decide_eq_true_eq] at * <;> omega
set_option maxRecDepth 100000 in
set_option maxHeartbeats 4000000 in
theorem schLess_law (aw : ∀ w : World, Yields Try.prog 15 #[] w (.bool true)) (a0 a1 a2 a3 b0 b1 b2 b3 c0 c1 c2 c3 : Int) (w : World) : Yields Try.prog 6 #[costV a0 a1 a2 a3, costV b0 b1 b2 b3, costV c0 c1 c2 c3] w (.bool true) := by
  apply Yields.ret
  have L1 := fun W => schLess_any a0 a1 a2 a3 b0 b1 b2 b3 W
  have L2 := fun W => schLess_any b0 b1 b2 b3 c0 c1 c2 c3 W
  have L3 := fun W => schLess_any a0 a1 a2 a3 c0 c1 c2 c3 W
  have L4 := fun W => schLess_any b0 b1 b2 b3 a0 a1 a2 a3 W
  have R1 := fun W => refLess_any a0 a1 a2 a3 b0 b1 b2 b3 W
  have ho := lessC_order a0 a1 a2 a3 b0 b1 b2 b3
  have ht := fun h k => lessC_trans (a0 := a0) (a1 := a1) (a2 := a2) (a3 := a3) (b0 := b0) (b1 := b1) (b2 := b2) (b3 := b3) (c0 := c0) (c1 := c1) (c2 := c2) (c3 := c3) h k
  generalize lessC a0 a1 a2 a3 b0 b1 b2 b3 = q1 at *
  generalize lessC b0 b1 b2 b3 c0 c1 c2 c3 = q2 at *
  generalize lessC a0 a1 a2 a3 c0 c1 c2 c3 = q3 at *
  generalize lessC b0 b1 b2 b3 a0 a1 a2 a3 = q4 at *
  go_enter Try.func6, Try.ntmps6
  go_wp2_with fail
  refine (aw _).calls.mono ?_
  rintro e _ ⟨rfl, x1, rfl⟩
  go_upto_region 3 with fail
  go_cut [7, 8, 9] (fun s7 s8 s9 wx => ∃ g7 g8 g9 : Nat, s7 = .pointer (some ⟨g7, 0, none⟩) ∧ s8 = .pointer (some ⟨g8, 0, none⟩) ∧ s9 = .pointer (some ⟨g9, 0, none⟩) ∧ CostAt wx g7 a0 a1 a2 a3 ∧ CostAt wx g8 b0 b1 b2 b3 ∧ CostAt wx g9 c0 c1 c2 c3 ∧ SinceOf x1.wd wx)
  case first =>
    go_region_held3 (fun w' => w'.cell? ⟨w.heap.size, 0, none⟩ = some (.int .i64 a0) ∧ w'.cell? ⟨w.heap.size, 1, none⟩ = some (.int .i64 a1) ∧ w'.cell? ⟨w.heap.size, 2, none⟩ = some (.int .i64 a2) ∧ w'.cell? ⟨w.heap.size, 3, none⟩ = some (.int .i64 a3) ∧ w'.cell? ⟨w.heap.size + 1, 0, none⟩ = some (.int .i64 b0) ∧ w'.cell? ⟨w.heap.size + 1, 1, none⟩ = some (.int .i64 b1) ∧ w'.cell? ⟨w.heap.size + 1, 2, none⟩ = some (.int .i64 b2) ∧ w'.cell? ⟨w.heap.size + 1, 3, none⟩ = some (.int .i64 b3) ∧
      w'.cell? ⟨w.heap.size + 1 + 1, 0, none⟩ = some (.int .i64 c0) ∧ w'.cell? ⟨w.heap.size + 1 + 1, 1, none⟩ = some (.int .i64 c1) ∧ w'.cell? ⟨w.heap.size + 1 + 1, 2, none⟩ = some (.int .i64 c2) ∧ w'.cell? ⟨w.heap.size + 1 + 1, 3, none⟩ = some (.int .i64 c3)) ((simp [go_sem, *])) (fail)
    all_goals
      go_wp2_with fail
      go_meet
      exact ⟨_, _, _, rfl, rfl, rfl, ⟨by simp [go_sem], by simp [go_sem], by simp [go_sem], by simp [go_sem], inferInstance⟩, ⟨by simp [go_sem], by simp [go_sem], by simp [go_sem], by simp [go_sem], inferInstance⟩, ⟨by simp [go_sem], by simp [go_sem], by simp [go_sem], by simp [go_sem], inferInstance⟩, by (repeat (first | (with_reducible exact SinceOf.refl _) | (with_reducible assumption) | (with_reducible refine SinceOf.alloc ?_ _) | (with_reducible refine SinceOf.drew ?_) | (with_reducible refine SinceOf.drewN ?_ _) | (with_reducible refine SinceOf.later ?_ _) | (with_reducible refine SinceOf.further ?_ _) | (with_reducible refine SinceOf.setCell ?_ (by first | exact Nat.le_refl _ | (simp; done) | omega | (simp; omega)) _)))⟩
  case rest =>
    obtain ⟨g7, g8, g9, rfl, rfl, rfl, ⟨d0, d1, d2, d3, hO7⟩, ⟨e0, e1, e2, e3, hO8⟩, ⟨f0, f1, f2, f3, hO9⟩, ⟨y, rfl⟩⟩ := hcut
    go_wp2_with fail
    refine region_later (by kernel_rfl) (by kernel_rfl) ?_
    repeat (go_big_quiet_step ((first | (with_reducible refine Gives.later (L1 _)) | (with_reducible refine Gives.later (L2 _)) | (with_reducible refine Gives.later (L3 _)))))
    refine wpQuiet_nil ?_
    rintro _ ⟨x2, rfl⟩
    rcases ho with ⟨rfl, rfl, he⟩ | ⟨rfl, rfl, he⟩ | ⟨rfl, rfl, he⟩
    all_goals
      cases q2
      all_goals
        cases q3
        all_goals
          first
          | (exfalso; have := ht rfl rfl; simp at this; done)
          | (go_wp2_with fail
             refine region_later (by kernel_rfl) (by kernel_rfl) ?_
             repeat (go_big_quiet_step ((first | (with_reducible refine Gives.later (R1 _)) | (with_reducible refine Gives.later (L4 _)))))
             refine wpQuiet_nil ?_
             rintro _ ⟨x3, rfl⟩
             go_wp2_with fail
             go_returns
             exact ⟨by simp, by (repeat (first | (with_reducible exact SinceOf.refl _) | (with_reducible assumption) | (with_reducible refine SinceOf.alloc ?_ _) | (with_reducible refine SinceOf.drew ?_) | (with_reducible refine SinceOf.drewN ?_ _) | (with_reducible refine SinceOf.later ?_ _) | (with_reducible refine SinceOf.further ?_ _) | (with_reducible refine SinceOf.setCell ?_ (by first | exact Nat.le_refl _ | (simp; done) | omega | (simp; omega)) _)))⟩)
end Go.Proofs.Ytbceogoeoojdbaa
