/- Contracts of package vec that compare: Compare, Less, Turn, Within, MaxNorm, and of the reference's. -/
import Derived.Test.YtpbgimdbhgahkaaGreatVecA
import Derived.Deep.RegionHeld3
import Derived.WalkLawsBesides
namespace Go.Proofs.YtpbgimdbhgahkaaGreat
open Go.RowKit
set_option linter.unusedVariables false

def cmpi (a b : Int) : Int := if a < b then -1 else if b < a then 1 else 0
def or2 (a b : Int) : Int := if a = 0 then b else a
def vcmp (a b c d : Int) : Int := or2 (cmpi b d) (cmpi a c)
def turnI (a b c d e f : Int) : Int := cmpi (crossI (wsub c a) (wsub d b) (wsub e a) (wsub f b)) 0
def iabs (n : Int) : Int := if 0 ≤ n then n else wneg n
def imax (a b : Int) : Int := if a < b then b else a
def imin (a b : Int) : Int := if b < a then b else a
def withinB (x y m : Int) : Bool := decide (wneg m ≤ x) && decide (x ≤ m) && decide (wneg m ≤ y) && decide (y ≤ m)

theorem cmpi_cases (a b : Int) : (a < b ∧ cmpi a b = -1) ∨ (¬ a < b ∧ b < a ∧ cmpi a b = 1) ∨ (¬ a < b ∧ ¬ b < a ∧ cmpi a b = 0) := by
  unfold cmpi; by_cases h1 : a < b
  · exact .inl ⟨h1, if_pos h1⟩
  · by_cases h2 : b < a
    · exact .inr (.inl ⟨h1, h2, by rw [if_neg h1, if_pos h2]⟩)
    · exact .inr (.inr ⟨h1, h2, by rw [if_neg h1, if_neg h2]⟩)

theorem isNaN_any (a : Int) (w : World) : Calls Tryz.prog 75 #[.int .i64 a] w fun e w' => e = .returned (.bool false) ∧ w = w' := by
  go_enter Tryz.func75, Tryz.ntmps75
  go_wp2
  go_returns
  exact ⟨by simp, rfl⟩
theorem cmpCompare_any (a b : Int) (w : World) : Calls Tryz.prog 65 #[.int .i64 a, .int .i64 b] w fun e w' => e = .returned (.int .i64 (cmpi a b)) ∧ w = w' := by
  rcases cmpi_cases a b with ⟨h1, e⟩ | ⟨h1, h2, e⟩ | ⟨h1, h2, e⟩ <;> rw [e] <;> clear e <;> go_enter Tryz.func65, Tryz.ntmps65 <;> go_wp2 <;> go_returns <;> exact ⟨rfl, rfl⟩
theorem sign_any (a : Int) (w : World) : Calls Tryz.prog 76 #[.int .i64 a] w fun e w' => e = .returned (.int .i64 (cmpi a 0)) ∧ w = w' := by
  rcases cmpi_cases a 0 with ⟨h1, e⟩ | ⟨h1, h2, e⟩ | ⟨h1, h2, e⟩ <;> rw [e] <;> clear e <;> go_enter Tryz.func76, Tryz.ntmps76 <;> go_wp2 <;> go_returns <;> exact ⟨rfl, rfl⟩
theorem cmpOr_any (a b : Int) (g c : Nat) (w : World) (h0 : w.cell? ⟨g, 0, none⟩ = some (.int .i64 a)) (h1 : w.cell? ⟨g, 1, none⟩ = some (.int .i64 b)) :
    Calls Tryz.prog 64 #[.slice (some ⟨g, 0, none⟩) 2 c] w fun e w' => e = .returned (.int .i64 (or2 a b)) ∧ w = w' := by
  by_cases ha : a = 0
  · subst ha
    by_cases hb : b = 0
    · subst hb
      go_enter Tryz.func64, Tryz.ntmps64
      go_wp2
      go_rounds 3
      go_returns
      exact ⟨by simp [or2], rfl⟩
    · go_enter Tryz.func64, Tryz.ntmps64
      go_wp2
      go_rounds 3
      go_returns
      exact ⟨by simp [or2], rfl⟩
  · go_enter Tryz.func64, Tryz.ntmps64
    go_wp2
    go_rounds 3
    go_returns
    exact ⟨by simp [or2, ha], rfl⟩
theorem compare_any (a b c d : Int) (w : World) : Gives Tryz.prog 58 #[vv a b, vv c d] w (.int .i64 (vcmp a b c d)) := by
  apply Gives.ret
  go_enter Tryz.func58, Tryz.ntmps58
  go_wp2_with fail
  go_region_held3 (fun w' => w'.cell? ⟨w.heap.size, 0, none⟩ = some (.int .i64 a) ∧ w'.cell? ⟨w.heap.size, 1, none⟩ = some (.int .i64 b) ∧ w'.cell? ⟨w.heap.size + 1, 0, none⟩ = some (.int .i64 c) ∧ w'.cell? ⟨w.heap.size + 1, 1, none⟩ = some (.int .i64 d)) (go_keep)
    (first | (go_at_call 65; refine (cmpCompare_any _ _ _).mono ?_; rintro e w' ⟨rfl, rfl⟩) | (go_at_call 64; refine (cmpOr_any (cmpi b d) (cmpi a c) _ _ _ (by simp [go_sem]) (by simp [go_sem])).mono ?_; rintro e w' ⟨rfl, rfl⟩))
  go_wp2_with fail
  go_returns
  exact ⟨rfl, by (repeat (first | (with_reducible exact LaterOf.refl _) | (with_reducible refine LaterOf.alloc ?_ _) | (with_reducible refine LaterOf.drew ?_) | (with_reducible refine LaterOf.drewN ?_ _) | (with_reducible refine LaterOf.later ?_ _) | (with_reducible refine LaterOf.setCell ?_ (by first | exact Nat.le_refl _ | (simp; done) | omega | (simp; omega)) _)))⟩
theorem turn_any (a b c d e f : Int) (w : World) : Gives Tryz.prog 51 #[vv a b, vv c d, vv e f] w (.int .i64 (turnI a b c d e f)) := by
  apply Gives.ret
  go_enter Tryz.func51, Tryz.ntmps51
  go_wp2_with fail
  refine region_later (by kernel_rfl) (by kernel_rfl) ?_
  repeat (go_big_quiet_step ((first | refine Gives.later (sub_any _ _ _ _ _) | refine Gives.later (cross_any _ _ _ _ _) | refine later_same (cmpCompare_any _ _ _))))
  refine wpQuiet_nil ?_
  rintro _ ⟨x2, rfl⟩
  go_wp2_with fail
  go_returns
  exact ⟨rfl, by (repeat (first | (with_reducible exact LaterOf.refl _) | (with_reducible refine LaterOf.alloc ?_ _) | (with_reducible refine LaterOf.drew ?_) | (with_reducible refine LaterOf.drewN ?_ _) | (with_reducible refine LaterOf.later ?_ _) | (with_reducible refine LaterOf.setCell ?_ (by first | exact Nat.le_refl _ | (simp; done) | omega | (simp; omega)) _)))⟩
theorem within_any (x y m : Int) (w : World) : Gives Tryz.prog 40 #[vv x y, .int .i64 m] w (.bool (withinB x y m)) := by
  apply Gives.ret
  have key : (¬ wneg m ≤ x ∧ withinB x y m = false) ∨ (wneg m ≤ x ∧ ¬ x ≤ m ∧ withinB x y m = false) ∨ (wneg m ≤ x ∧ x ≤ m ∧ ¬ wneg m ≤ y ∧ withinB x y m = false) ∨
      (wneg m ≤ x ∧ x ≤ m ∧ wneg m ≤ y ∧ ¬ y ≤ m ∧ withinB x y m = false) ∨ (wneg m ≤ x ∧ x ≤ m ∧ wneg m ≤ y ∧ y ≤ m ∧ withinB x y m = true) := by
    unfold withinB
    by_cases h1 : wneg m ≤ x <;> by_cases h2 : x ≤ m <;> by_cases h3 : wneg m ≤ y <;> by_cases h4 : y ≤ m <;> simp [h1, h2, h3, h4]
  have nm : wrap64 (-m) = wneg m := rfl
  rcases key with ⟨h1, e⟩ | ⟨h1, h2, e⟩ | ⟨h1, h2, h3, e⟩ | ⟨h1, h2, h3, h4, e⟩ | ⟨h1, h2, h3, h4, e⟩ <;> rw [e] <;> clear e <;> go_enter Tryz.func40, Tryz.ntmps40 <;> go_wp2 <;> go_returns <;> exact ⟨rfl, by (repeat (first | (with_reducible exact LaterOf.refl _) | (with_reducible refine LaterOf.alloc ?_ _) | (with_reducible refine LaterOf.drew ?_) | (with_reducible refine LaterOf.drewN ?_ _) | (with_reducible refine LaterOf.later ?_ _) | (with_reducible refine LaterOf.setCell ?_ (by first | exact Nat.le_refl _ | (simp; done) | omega | (simp; omega)) _)))⟩
theorem refWithin_any (x y m : Int) (w : World) : Gives Tryz.prog 43 #[vv x y, .int .i64 m] w (.bool (withinB x y m)) := by
  apply Gives.ret
  have key : (¬ wneg m ≤ x ∧ withinB x y m = false) ∨ (wneg m ≤ x ∧ ¬ x ≤ m ∧ withinB x y m = false) ∨ (wneg m ≤ x ∧ x ≤ m ∧ ¬ wneg m ≤ y ∧ withinB x y m = false) ∨
      (wneg m ≤ x ∧ x ≤ m ∧ wneg m ≤ y ∧ ¬ y ≤ m ∧ withinB x y m = false) ∨ (wneg m ≤ x ∧ x ≤ m ∧ wneg m ≤ y ∧ y ≤ m ∧ withinB x y m = true) := by
    unfold withinB
    by_cases h1 : wneg m ≤ x <;> by_cases h2 : x ≤ m <;> by_cases h3 : wneg m ≤ y <;> by_cases h4 : y ≤ m <;> simp [h1, h2, h3, h4]
  have nm : wrap64 (-m) = wneg m := rfl
  rcases key with ⟨h1, e⟩ | ⟨h1, h2, e⟩ | ⟨h1, h2, h3, e⟩ | ⟨h1, h2, h3, h4, e⟩ | ⟨h1, h2, h3, h4, e⟩ <;> rw [e] <;> clear e <;> go_enter Tryz.func43, Tryz.ntmps43 <;> go_wp2 <;> go_returns <;> exact ⟨rfl, by (repeat (first | (with_reducible exact LaterOf.refl _) | (with_reducible refine LaterOf.alloc ?_ _) | (with_reducible refine LaterOf.drew ?_) | (with_reducible refine LaterOf.drewN ?_ _) | (with_reducible refine LaterOf.later ?_ _) | (with_reducible refine LaterOf.setCell ?_ (by first | exact Nat.le_refl _ | (simp; done) | omega | (simp; omega)) _)))⟩
def lessB (a b c d : Int) : Bool := decide (b < d) || (b == d && decide (a < c))
theorem refLess_any (a b c d : Int) (w : World) : Gives Tryz.prog 67 #[vv a b, vv c d] w (.bool (lessB a b c d)) := by
  apply Gives.ret
  have key : (b < d ∧ lessB a b c d = true) ∨ (¬ b < d ∧ (b == d) = false ∧ lessB a b c d = false) ∨ (¬ b < d ∧ (b == d) = true ∧ a < c ∧ lessB a b c d = true) ∨ (¬ b < d ∧ (b == d) = true ∧ ¬ a < c ∧ lessB a b c d = false) := by
    unfold lessB
    by_cases h1 : b < d <;> by_cases h2 : b = d <;> by_cases h3 : a < c <;> simp [h1, h2, h3]
  rcases key with ⟨h1, e⟩ | ⟨h1, h2, e⟩ | ⟨h1, h2, h3, e⟩ | ⟨h1, h2, h3, e⟩ <;> rw [e] <;> clear e <;> go_enter Tryz.func67, Tryz.ntmps67 <;> go_wp2 <;> go_returns <;> exact ⟨rfl, by (repeat (first | (with_reducible exact LaterOf.refl _) | (with_reducible refine LaterOf.alloc ?_ _) | (with_reducible refine LaterOf.drew ?_) | (with_reducible refine LaterOf.drewN ?_ _) | (with_reducible refine LaterOf.later ?_ _) | (with_reducible refine LaterOf.setCell ?_ (by first | exact Nat.le_refl _ | (simp; done) | omega | (simp; omega)) _)))⟩
theorem refAdd_any (a b c d : Int) (w : World) : Gives Tryz.prog 44 #[vv a b, vv c d] w (vv (wadd a c) (wadd b d)) := by
  apply Gives.ret
  go_enter Tryz.func44, Tryz.ntmps44
  go_wp2
  go_returns
  exact ⟨rfl, by (repeat (first | (with_reducible exact LaterOf.refl _) | (with_reducible refine LaterOf.alloc ?_ _) | (with_reducible refine LaterOf.drew ?_) | (with_reducible refine LaterOf.drewN ?_ _) | (with_reducible refine LaterOf.later ?_ _) | (with_reducible refine LaterOf.setCell ?_ (by first | exact Nat.le_refl _ | (simp; done) | omega | (simp; omega)) _)))⟩
theorem refSub_any (a b c d : Int) (w : World) : Gives Tryz.prog 78 #[vv a b, vv c d] w (vv (wsub a c) (wsub b d)) := by
  apply Gives.ret
  go_enter Tryz.func78, Tryz.ntmps78
  go_wp2
  go_returns
  exact ⟨rfl, by (repeat (first | (with_reducible exact LaterOf.refl _) | (with_reducible refine LaterOf.alloc ?_ _) | (with_reducible refine LaterOf.drew ?_) | (with_reducible refine LaterOf.drewN ?_ _) | (with_reducible refine LaterOf.later ?_ _) | (with_reducible refine LaterOf.setCell ?_ (by first | exact Nat.le_refl _ | (simp; done) | omega | (simp; omega)) _)))⟩
theorem refNeg_any (a b : Int) (w : World) : Gives Tryz.prog 37 #[vv a b] w (vv (wneg a) (wneg b)) := by
  apply Gives.ret
  go_enter Tryz.func37, Tryz.ntmps37
  go_wp2
  go_returns
  exact ⟨rfl, by (repeat (first | (with_reducible exact LaterOf.refl _) | (with_reducible refine LaterOf.alloc ?_ _) | (with_reducible refine LaterOf.drew ?_) | (with_reducible refine LaterOf.drewN ?_ _) | (with_reducible refine LaterOf.later ?_ _) | (with_reducible refine LaterOf.setCell ?_ (by first | exact Nat.le_refl _ | (simp; done) | omega | (simp; omega)) _)))⟩
theorem refCross_any (a b c d : Int) (w : World) : Gives Tryz.prog 77 #[vv a b, vv c d] w (.int .i64 (crossI a b c d)) := by
  apply Gives.ret
  go_enter Tryz.func77, Tryz.ntmps77
  go_wp2
  go_returns
  exact ⟨rfl, by (repeat (first | (with_reducible exact LaterOf.refl _) | (with_reducible refine LaterOf.alloc ?_ _) | (with_reducible refine LaterOf.drew ?_) | (with_reducible refine LaterOf.drewN ?_ _) | (with_reducible refine LaterOf.later ?_ _) | (with_reducible refine LaterOf.setCell ?_ (by first | exact Nat.le_refl _ | (simp; done) | omega | (simp; omega)) _)))⟩
theorem refTurn_any (a b c d e f : Int) (w : World) : Gives Tryz.prog 66 #[vv a b, vv c d, vv e f] w (.int .i64 (turnI a b c d e f)) := by
  apply Gives.ret
  go_enter Tryz.func66, Tryz.ntmps66
  go_wp2_with fail
  refine region_later (by kernel_rfl) (by kernel_rfl) ?_
  repeat (go_big_quiet_step ((first | refine Gives.later (refSub_any _ _ _ _ _) | refine Gives.later (refCross_any _ _ _ _ _) | refine later_same (sign_any _ _))))
  refine wpQuiet_nil ?_
  rintro _ ⟨x2, rfl⟩
  go_wp2_with fail
  go_returns
  exact ⟨rfl, by (repeat (first | (with_reducible exact LaterOf.refl _) | (with_reducible refine LaterOf.alloc ?_ _) | (with_reducible refine LaterOf.drew ?_) | (with_reducible refine LaterOf.drewN ?_ _) | (with_reducible refine LaterOf.later ?_ _) | (with_reducible refine LaterOf.setCell ?_ (by first | exact Nat.le_refl _ | (simp; done) | omega | (simp; omega)) _)))⟩

end Go.Proofs.YtpbgimdbhgahkaaGreat
