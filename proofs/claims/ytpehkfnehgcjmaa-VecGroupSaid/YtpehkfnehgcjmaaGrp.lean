import Derived.Test.YtpehkfnehgcjmaaAwake06
namespace Go.Proofs.Ytpehkfnehgcjmaa
open Go.RowKit
set_option linter.unusedVariables false


theorem wmul_succ (k : Nat) (a : Int) : wmul ((k + 1 : Nat) : Int) a = wadd (wmul k a) a := by
  unfold wmul wadd; rw [show (((k + 1 : Nat) : Int)) * a = (k : Int) * a + a from by rw [Int.natCast_add, Int.add_mul]; simp]; unfold wrap64; omega
theorem wadd_comm (a b : Int) : wadd a b = wadd b a := by unfold wadd; rw [Int.add_comm]

set_option maxRecDepth 100000 in
theorem group_any (a0 a1 : Int) (ha0 : i64 a0) (ha1 : i64 a1) (b0 b1 : Int) (_ : i64 b0) (_ : i64 b1) (c0 c1 : Int) (_ : i64 c0) (_ : i64 c1) (w : World) : Yields Try.prog 7 #[vv a0 a1, vv b0 b1, vv c0 c1] w (.bool true) := by
  have E1 : wadd b0 a0 = wadd a0 b0 := wadd_comm _ _
  have E2 : wadd b1 a1 = wadd a1 b1 := wadd_comm _ _
  have E3 : wadd (wadd a0 b0) c0 = wadd a0 (wadd b0 c0) := by unfold wadd wrap64; omega
  have E4 : wadd (wadd a1 b1) c1 = wadd a1 (wadd b1 c1) := by unfold wadd wrap64; omega
  have E5 : wadd a0 0 = a0 := by unfold wadd; rw [Int.add_zero]; exact ha0.wrap
  have E6 : wadd a1 0 = a1 := by unfold wadd; rw [Int.add_zero]; exact ha1.wrap
  have E7 : wadd a0 (wneg a0) = 0 := by unfold wadd wneg wrap64; omega
  have E8 : wadd a1 (wneg a1) = 0 := by unfold wadd wneg wrap64; omega
  have E9 : wsub a0 b0 = wadd a0 (wneg b0) := by unfold wsub wadd wneg wrap64; omega
  have E10 : wsub a1 b1 = wadd a1 (wneg b1) := by unfold wsub wadd wneg wrap64; omega
  clear ha0 ha1
  apply Yields.ret
  go_enter Try.func7, Try.ntmps7
  go_wp2_with fail
  refine (awake_any _).calls.mono ?_
  rintro e _ ⟨rfl, x1, rfl⟩
  go_wp2_with fail
  refine region_later (by kernel_rfl) (by kernel_rfl) ?_
  repeat (go_big_quiet_step ((first | refine Gives.later (add_any _ _ _ _ _) | refine Gives.later (neg_any _ _ _) | refine Gives.later (sub_any _ _ _ _ _))))
  refine wpQuiet_nil ?_
  rintro _ ⟨x2, rfl⟩
  clear E1 E2 E3 E4 E5 E6 E7 E8 E9 E10
  go_wp2_with fail
  go_loopw [9] (fun i wr => ∃ (k : Nat), k ≤ 5 ∧ i = .int .i64 k ∧ LaterOf x2.wd wr ∧ IsVec wr x2.wd.heap.size (wmul k a0) (wmul k a1)) (fun i _ => 5 - (intOf i).toNat)
  case atStart => exact ⟨0, by omega, rfl, by (repeat (first | (with_reducible exact LaterOf.refl _) | (with_reducible refine LaterOf.alloc ?_ _) | (with_reducible refine LaterOf.drew ?_) | (with_reducible refine LaterOf.drewN ?_ _) | (with_reducible refine LaterOf.later ?_ _) | (with_reducible refine LaterOf.setCell ?_ (by first | exact Nat.le_refl _ | (simp; done) | omega | (simp; omega)) _))), by simpa [wmul, wrap64] using IsVec.new x2.wd 0 0 23⟩
  case round =>
    obtain ⟨k, hk, rfl, ⟨z, rfl⟩, hb⟩ := hrel
    obtain ⟨hc0, hc1, hf0, hf1, hold⟩ := hb
    by_cases hlt : k < 5
    · have F1 : wmul (-(k : Int)) a0 = wneg (wmul k a0) := by unfold wmul wneg; rw [Int.neg_mul]; unfold wrap64; omega
      have F2 : wmul (-(k : Int)) a1 = wneg (wmul k a1) := by unfold wmul wneg; rw [Int.neg_mul]; unfold wrap64; omega
      go_wp2_with fail
      refine region_later (by kernel_rfl) (by kernel_rfl) ?_
      repeat (go_big_quiet_step ((first | refine Gives.later (add_any _ _ _ _ _) | refine Gives.later (neg_any _ _ _) | refine Gives.later (scale_any _ _ _ _))))
      refine wpQuiet_nil ?_
      rintro _ ⟨x3, rfl⟩
      clear F1 F2
      go_wp2_with fail
      refine (add_any _ _ _ _ _).calls.mono ?_
      rintro e _ ⟨rfl, x4, rfl⟩
      go_wp2_with fail
      go_roundw
      case rel => exact ⟨k + 1, by omega, by go_num, by (repeat (first | (with_reducible exact LaterOf.refl _) | (with_reducible refine LaterOf.alloc ?_ _) | (with_reducible refine LaterOf.drew ?_) | (with_reducible refine LaterOf.drewN ?_ _) | (with_reducible refine LaterOf.later ?_ _) | (with_reducible refine LaterOf.setCell ?_ (by first | exact Nat.le_refl _ | (simp; done) | omega | (simp; omega)) _))), by rw [wmul_succ, wmul_succ]; exact ((IsVec.later ⟨hc0, hc1, hf0, hf1, hold⟩ x3).later x4).set _ _⟩
      case measure => simp [intOf]; omega
    · go_wp2_with fail
      go_returns
      exact ⟨rfl, by (repeat (first | (with_reducible exact SinceOf.refl _) | (with_reducible assumption) | (with_reducible refine SinceOf.alloc ?_ _) | (with_reducible refine SinceOf.drew ?_) | (with_reducible refine SinceOf.drewN ?_ _) | (with_reducible refine SinceOf.later ?_ _) | (with_reducible refine SinceOf.further ?_ _) | (with_reducible refine SinceOf.setCell ?_ (by first | exact Nat.le_refl _ | (simp; done) | omega | (simp; omega)) _)))⟩

end Go.Proofs.Ytpehkfnehgcjmaa
