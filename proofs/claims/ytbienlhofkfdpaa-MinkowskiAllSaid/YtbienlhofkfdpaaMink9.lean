/- Layer 15: the comparison of Sum, slices.SortStableFunc on few elements. -/
import Derived.Test.YtbienlhofkfdpaaMink8
namespace Go.Proofs.Ytbienlhofkfdpaa
open Go.RowKit Go.Sort
set_option linter.unusedVariables false
set_option linter.unusedSimpArgs false
attribute [local go_sem ↓] Go.wp_at_zero Go.wp_at_succ

def halfI (p : Pt) : Int := if upB p then 0 else 1
def ecmp (p q : Pt) : Int := or2 (cmpi (halfI p) (halfI q)) (cmpi 0 (crossI p.1 p.2 q.1 q.2))
set_option maxRecDepth 100000 in
theorem half_any (x y : Int) (w : World) : Gives Try.prog 56 #[vv x y] w (.int .i64 (halfI (x, y))) := by
  apply Gives.ret
  unfold halfI
  have U := upper_any x y
  cases hu : upB (x, y)
  · rw [hu] at U
    go_enter Try.func56, Try.ntmps56
    go_wp2_with fail
    refine (U _).calls.mono ?_
    rintro e _ ⟨rfl, x1, rfl⟩
    go_wp2_with fail
    go_returns
    exact ⟨rfl, by (repeat (first | (with_reducible exact LaterOf.refl _) | (with_reducible refine LaterOf.alloc ?_ _) | (with_reducible refine LaterOf.drew ?_) | (with_reducible refine LaterOf.drewN ?_ _) | (with_reducible refine LaterOf.later ?_ _) | (with_reducible refine LaterOf.setCell ?_ (by first | exact Nat.le_refl _ | (simp; done) | omega | (simp; omega)) _)))⟩
  · rw [hu] at U
    go_enter Try.func56, Try.ntmps56
    go_wp2_with fail
    refine (U _).calls.mono ?_
    rintro e _ ⟨rfl, x1, rfl⟩
    go_wp2_with fail
    go_returns
    exact ⟨rfl, by (repeat (first | (with_reducible exact LaterOf.refl _) | (with_reducible refine LaterOf.alloc ?_ _) | (with_reducible refine LaterOf.drew ?_) | (with_reducible refine LaterOf.drewN ?_ _) | (with_reducible refine LaterOf.later ?_ _) | (with_reducible refine LaterOf.setCell ?_ (by first | exact Nat.le_refl _ | (simp; done) | omega | (simp; omega)) _)))⟩
set_option maxRecDepth 100000 in
set_option maxHeartbeats 8000000 in
theorem ecmp_any (b7 : Nat) (a b c d : Int) (w : World) (h : w.cell? ⟨b7, 0, none⟩ = some (.func (.func 56) #[] #[])) (hO : Nonempty (Old w b7)) :
    Gives Try.prog 59 #[vv a b, vv c d, .pointer (some ⟨b7, 0, none⟩)] w (.int .i64 (ecmp (a, b) (c, d))) := by
  apply Gives.ret
  have H1 := half_any a b
  have H2 := half_any c d
  have C := cross_any a b c d
  unfold ecmp
  generalize halfI (a, b) = s at *
  generalize halfI (c, d) = t at *
  simp only
  generalize crossI a b c d = k at *
  have hlt := hO.elim fun q => q.lt
  go_enter Try.func59, Try.ntmps59
  go_wp2_with fail
  go_region_held3 (fun w' => w'.cell? ⟨b7, 0, none⟩ = some (.func (.func 56) #[] #[]) ∧ w'.cell? ⟨w.heap.size, 0, none⟩ = some (.int .i64 a) ∧ w'.cell? ⟨w.heap.size, 1, none⟩ = some (.int .i64 b) ∧ w'.cell? ⟨w.heap.size + 1, 0, none⟩ = some (.int .i64 c) ∧ w'.cell? ⟨w.heap.size + 1, 1, none⟩ = some (.int .i64 d)) ((simp [go_sem, *]))
    (first
      | (go_at_call 56; (with_reducible refine (H1 _).calls.mono ?_); rintro e _ ⟨rfl, y1, rfl⟩)
      | (go_at_call 56; (with_reducible refine (H2 _).calls.mono ?_); rintro e _ ⟨rfl, y2, rfl⟩)
      | (go_at_call 62; (with_reducible refine (C _).calls.mono ?_); rintro e _ ⟨rfl, y3, rfl⟩)
      | (go_at_call 61; refine (cmpCompare_any _ _ _).mono ?_; rintro e w' ⟨rfl, rfl⟩)
      | (go_at_call 60; refine (cmpOr_any (cmpi s t) (cmpi 0 k) _ _ _ (by simp [go_sem]) (by simp [go_sem])).mono ?_; rintro e w' ⟨rfl, rfl⟩))
  all_goals
    go_wp2_with fail
    go_returns
    exact ⟨rfl, by (repeat (first | (with_reducible exact LaterOf.refl _) | (with_reducible refine LaterOf.alloc ?_ _) | (with_reducible refine LaterOf.drew ?_) | (with_reducible refine LaterOf.drewN ?_ _) | (with_reducible refine LaterOf.later ?_ _) | (with_reducible refine LaterOf.setCell ?_ (by first | exact Nat.le_refl _ | (simp; done) | omega | (simp; omega)) _)))⟩
end Go.Proofs.Ytbienlhofkfdpaa
