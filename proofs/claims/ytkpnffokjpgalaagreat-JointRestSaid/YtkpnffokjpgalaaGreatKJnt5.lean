/- Layer 46: place. -/
import Derived.Test.YtkpnffokjpgalaaGreatKJnt1
namespace Go.Proofs.YtkpnffokjpgalaaGreat
set_option linter.unusedVariables false
set_option linter.unusedSimpArgs false
open Go.RowKit Go.Sort
attribute [local go_sem ↓] Go.wp_at_zero Go.wp_at_succ

theorem tdiv_small {x y : Int} (h : small5 x) : small5 (x.tdiv y) := by
  have h1 : (x.tdiv y).natAbs = x.natAbs / y.natAbs := Int.natAbs_tdiv _ _
  have h2 := Nat.div_le_self x.natAbs y.natAbs
  unfold small5 at *
  omega
theorem wrap_small {x : Int} (h : small5 x) : IntKind.i64.wrap x = x := IntWalk.i64_in _ (by unfold small5 at h; omega)
set_option maxRecDepth 100000 in
set_option maxHeartbeats 8000000 in
theorem place_any (s : SegP) (p : Pt) (hs : segOk s = true) (hne : s.1 ≠ s.2) (hp : near4 p) (w : World) : Gives Tryz.prog 65 #[sgv s, vv p.1 p.2] w (.int .i64 (placeK s.1 s.2 p)) := by
  apply Gives.ret
  obtain ⟨g0, q1, q2, -, -, -, -⟩ := ptFacts (n := 0) hs hne (by unfold small5; omega)
  obtain ⟨h1, h2⟩ := segOk_near.1 hs
  obtain ⟨e1, e2, s1, s2⟩ := sub_near h1 h2
  obtain ⟨e3, e4, s3, s4⟩ := sub_near h1 hp
  obtain ⟨f1, f2⟩ := dirK_mul s.1 s.2
  have T := steps_any s
  unfold stepsI at T
  rw [if_pos hs] at T
  have S := sub_any s.2.1 s.2.2 s.1.1 s.1.2
  rw [e1, e2] at S
  have R := sub_any p.1 p.2 s.1.1 s.1.2
  rw [e3, e4] at R
  have n1 : s.2.1 - s.1.1 ≠ 0 → ¬ (dirK s.1 s.2).1 = 0 := fun h e => by rw [e] at f1; omega
  have n2 : ¬ s.2.1 - s.1.1 ≠ 0 → ¬ (dirK s.1 s.2).2 = 0 := fun h e => hne (Prod.ext (by omega) (by rw [e] at f2; omega))
  have r1 := wrap_small (tdiv_small (y := (dirK s.1 s.2).1) s3)
  have r2 := wrap_small (tdiv_small (y := (dirK s.1 s.2).2) s4)
  unfold placeK
  generalize stepsK s.1 s.2 = g at *
  generalize (dirK s.1 s.2).1 = v1 at *
  generalize (dirK s.1 s.2).2 = v2 at *
  generalize s.2.1 - s.1.1 = dx at *
  generalize s.2.2 - s.1.2 = dy at *
  generalize p.1 - s.1.1 = ex at *
  generalize p.2 - s.1.2 = ey at *
  clear hs h1 h2 e1 e2 s1 s2 hne e3 e4 s3 s4 f1 f2 hp
  obtain ⟨⟨ax, ay⟩, bx, by'⟩ := s
  obtain ⟨px, py⟩ := p
  simp only at *
  by_cases hd : dx = 0
  · have n2 := n2 (by omega)
    subst hd
    rw [if_neg (by simp)]
    clear n1 r1
    go_enter Tryz.func65, Tryz.ntmps65
    go_wp2_with fail
    refine (T _).calls.mono ?_
    rintro e _ ⟨rfl, x1, rfl⟩
    have z1 := x1.size
    (try simp only [World.size_alloc, World.size_setCell, World.size_drew] at z1)
    go_wp2_with fail
    go_region_held3 (fun w' => w'.cell? ⟨w.heap.size, 0, none⟩ = some (.int .i64 ax) ∧ w'.cell? ⟨w.heap.size, 1, none⟩ = some (.int .i64 ay) ∧ w'.cell? ⟨w.heap.size, 2, none⟩ = some (.int .i64 bx) ∧ w'.cell? ⟨w.heap.size, 3, none⟩ = some (.int .i64 by') ∧ w'.cell? ⟨w.heap.size + 1, 0, none⟩ = some (.int .i64 px) ∧ w'.cell? ⟨w.heap.size + 1, 1, none⟩ = some (.int .i64 py)) ((simp [go_sem, *]))
      (first | (go_at_call 43; (with_reducible refine (S _).calls.mono ?_); rintro e _ ⟨rfl, y1, rfl⟩; have sz_y1 := y1.size; (try simp only [World.size_alloc, World.size_setCell, World.size_drew] at sz_y1); (try (have na_y1_0 : ¬ w.heap.size = y1.wd.heap.size := by omega)); (try (have nb_y1_0 : ¬ y1.wd.heap.size = w.heap.size := by omega)); (try (have na_y1_1 : ¬ w.heap.size + 1 = y1.wd.heap.size := by omega)); (try (have nb_y1_1 : ¬ y1.wd.heap.size = w.heap.size + 1 := by omega))) | (go_at_call 43; (with_reducible refine (R _).calls.mono ?_); rintro e _ ⟨rfl, y2, rfl⟩; have sz_y2 := y2.size; (try simp only [World.size_alloc, World.size_setCell, World.size_drew] at sz_y2); (try (have na_y2_0 : ¬ w.heap.size = y2.wd.heap.size := by omega)); (try (have nb_y2_0 : ¬ y2.wd.heap.size = w.heap.size := by omega)); (try (have na_y2_1 : ¬ w.heap.size + 1 = y2.wd.heap.size := by omega)); (try (have nb_y2_1 : ¬ y2.wd.heap.size = w.heap.size + 1 := by omega))))
    all_goals
      go_wp2_with fail
      (try go_big_region)
      go_wp2_with fail
      go_returns
      exact ⟨by rfl, by (repeat (first | (with_reducible exact LaterOf.refl _) | (with_reducible refine LaterOf.alloc ?_ _) | (with_reducible refine LaterOf.drew ?_) | (with_reducible refine LaterOf.drewN ?_ _) | (with_reducible refine LaterOf.later ?_ _) | (with_reducible refine LaterOf.setCell ?_ (by first | exact Nat.le_refl _ | (simp; done) | omega | (simp; omega)) _)))⟩
  · have n1 := n1 (by omega)
    rw [if_pos (by omega)]
    have hd2 : (dx != 0) = true := by simpa using hd
    clear n2 r2
    go_enter Tryz.func65, Tryz.ntmps65
    go_wp2_with fail
    refine (T _).calls.mono ?_
    rintro e _ ⟨rfl, x1, rfl⟩
    have z1 := x1.size
    (try simp only [World.size_alloc, World.size_setCell, World.size_drew] at z1)
    go_wp2_with fail
    go_region_held3 (fun w' => w'.cell? ⟨w.heap.size, 0, none⟩ = some (.int .i64 ax) ∧ w'.cell? ⟨w.heap.size, 1, none⟩ = some (.int .i64 ay) ∧ w'.cell? ⟨w.heap.size, 2, none⟩ = some (.int .i64 bx) ∧ w'.cell? ⟨w.heap.size, 3, none⟩ = some (.int .i64 by') ∧ w'.cell? ⟨w.heap.size + 1, 0, none⟩ = some (.int .i64 px) ∧ w'.cell? ⟨w.heap.size + 1, 1, none⟩ = some (.int .i64 py)) ((simp [go_sem, *]))
      (first | (go_at_call 43; (with_reducible refine (S _).calls.mono ?_); rintro e _ ⟨rfl, y1, rfl⟩; have sz_y1 := y1.size; (try simp only [World.size_alloc, World.size_setCell, World.size_drew] at sz_y1); (try (have na_y1_0 : ¬ w.heap.size = y1.wd.heap.size := by omega)); (try (have nb_y1_0 : ¬ y1.wd.heap.size = w.heap.size := by omega)); (try (have na_y1_1 : ¬ w.heap.size + 1 = y1.wd.heap.size := by omega)); (try (have nb_y1_1 : ¬ y1.wd.heap.size = w.heap.size + 1 := by omega))) | (go_at_call 43; (with_reducible refine (R _).calls.mono ?_); rintro e _ ⟨rfl, y2, rfl⟩; have sz_y2 := y2.size; (try simp only [World.size_alloc, World.size_setCell, World.size_drew] at sz_y2); (try (have na_y2_0 : ¬ w.heap.size = y2.wd.heap.size := by omega)); (try (have nb_y2_0 : ¬ y2.wd.heap.size = w.heap.size := by omega)); (try (have na_y2_1 : ¬ w.heap.size + 1 = y2.wd.heap.size := by omega)); (try (have nb_y2_1 : ¬ y2.wd.heap.size = w.heap.size + 1 := by omega))))
    all_goals
      go_wp2_with fail
      (try go_big_region)
      go_wp2_with fail
      go_returns
      exact ⟨by rfl, by (repeat (first | (with_reducible exact LaterOf.refl _) | (with_reducible refine LaterOf.alloc ?_ _) | (with_reducible refine LaterOf.drew ?_) | (with_reducible refine LaterOf.drewN ?_ _) | (with_reducible refine LaterOf.later ?_ _) | (with_reducible refine LaterOf.setCell ?_ (by first | exact Nat.le_refl _ | (simp; done) | omega | (simp; omega)) _)))⟩
end Go.Proofs.YtkpnffokjpgalaaGreat
