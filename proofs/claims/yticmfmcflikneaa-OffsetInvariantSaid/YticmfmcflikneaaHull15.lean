/- Layer 10: the examples of the document hold: awake. -/
import Derived.Test.YticmfmcflikneaaHull14
namespace Go.Proofs.Yticmfmcflikneaa
open Go.RowKit Go.Sort
set_option linter.unusedVariables false
attribute [local go_sem ↓] Go.wp_at_zero Go.wp_at_succ

def exL : List Pt := [(0, 0), (2, 0), (1, 1), (2, 2), (0, 2), (1, 0)]
def exR : List Pt := [(0, 0), (2, 0), (2, 2), (0, 2)]
theorem ex_hull : IsHull exL exR where
  three := by decide
  convex := by
    have h : ∀ i, i < 4 → ∀ k, k < 4 → k ≠ i → k ≠ (i + 1) % 4 → 0 < det (at0 exR i) (rv exR (i + 1)) (at0 exR k) := by decide +kernel
    exact fun i k hi hk => h i hi k hk
  left := by
    have h : ∀ i, i < 4 → ∀ q ∈ exL, 0 ≤ det (at0 exR i) (rv exR (i + 1)) q := by decide +kernel
    exact fun i hi => h i hi
  sub := by decide +kernel
theorem ex_res : HullRes exL exR 0 := by
  refine .inr (.inr (.inr ⟨by decide, by decide +kernel, exR, ⟨ex_hull, ?_⟩, .inr ⟨by decide, rfl, rfl⟩⟩))
  have h : ∀ q ∈ exL, at0 exR 0 = q ∨ (at0 exR 0).2 < q.2 ∨ (at0 exR 0).2 = q.2 ∧ (at0 exR 0).1 < q.1 := by decide +kernel
  exact h
theorem ex_width : widRes exR (1, 1) = (4, 0) := by decide +kernel
theorem ex_dia : dia exR = 8 := by decide +kernel
theorem ex_convex : convexB exR = true := by decide +kernel
set_option maxRecDepth 100000 in
set_option maxHeartbeats 4000000 in
theorem awake10_any (w : World) : Yields Try.prog 20 #[] w (.bool true) := by
  apply Yields.ret
  go_enter Try.func20, Try.ntmps20
  go_wp2_with fail
  have hO : OwnVecs w.heap.size (w.alloc (.cells #[.int .i64 0, .int .i64 0, .int .i64 2, .int .i64 0, .int .i64 1, .int .i64 1, .int .i64 2, .int .i64 2, .int .i64 0, .int .i64 2, .int .i64 1, .int .i64 0] 32)) (some ⟨w.heap.size, 0, none⟩) 6 exL := World.ownsRow_lit w _ 6 (Nat.le_refl _) (by decide) rfl
  have hs := hull_any _ 6 exL _ (hO.isRow encV_len) (by decide)
  clear hO
  refine hs.mono ?_
  rintro e _ ⟨A1, c1, r, err, rfl, hv, hres, ⟨x1, rfl⟩⟩
  obtain ⟨rfl, rfl⟩ := hres.unique ex_res
  clear hs hres
  obtain ⟨g, off, rfl, hr⟩ := hv.at_ (by decide)
  have c0 := hr.v0 1 (by decide)
  have c1' := hr.v1 1 (by decide)
  have hg := hr.there
  have W1 := fun W (hW : SinceOf x1.wd W) => width_any _ c1 exR 1 1 W (hv.of hW) (by decide)
  have D1 := fun W (hW : SinceOf x1.wd W) => diameter_any _ c1 exR W (hv.of hW) (by decide)
  have C1 := fun W (hW : SinceOf x1.wd W) => convex_any _ c1 exR W (hv.of hW) (by decide)
  rw [ex_width] at W1
  rw [ex_dia, ex_convex] at D1
  rw [ex_convex] at C1
  simp only [show exR.length = 4 from rfl, show exR[1] = (2, 0) from rfl, if_true] at c0 c1' W1 D1 C1
  simp only [show exR.length = 4 from rfl]
  simp at c0 c1'
  clear hr hv
  go_wp2_with fail
  refine (W1 _ (by (repeat (first | (with_reducible exact SinceOf.refl _) | (with_reducible assumption) | (with_reducible refine SinceOf.alloc ?_ _) | (with_reducible refine SinceOf.drew ?_) | (with_reducible refine SinceOf.drewN ?_ _) | (with_reducible refine SinceOf.later ?_ _) | (with_reducible refine SinceOf.further ?_ _) | (with_reducible refine SinceOf.setCell ?_ (by first | exact Nat.le_refl _ | (simp; done) | omega | (simp; omega)) _))))).mono ?_
  rintro e _ ⟨rfl, ⟨x2, rfl⟩⟩
  go_wp2_with fail
  refine (D1 _ (by (repeat (first | (with_reducible exact SinceOf.refl _) | (with_reducible assumption) | (with_reducible refine SinceOf.alloc ?_ _) | (with_reducible refine SinceOf.drew ?_) | (with_reducible refine SinceOf.drewN ?_ _) | (with_reducible refine SinceOf.later ?_ _) | (with_reducible refine SinceOf.further ?_ _) | (with_reducible refine SinceOf.setCell ?_ (by first | exact Nat.le_refl _ | (simp; done) | omega | (simp; omega)) _))))).mono ?_
  rintro e _ ⟨rfl, ⟨x3, rfl⟩⟩
  go_wp2_with fail
  refine (C1 _ (by (repeat (first | (with_reducible exact SinceOf.refl _) | (with_reducible assumption) | (with_reducible refine SinceOf.alloc ?_ _) | (with_reducible refine SinceOf.drew ?_) | (with_reducible refine SinceOf.drewN ?_ _) | (with_reducible refine SinceOf.later ?_ _) | (with_reducible refine SinceOf.further ?_ _) | (with_reducible refine SinceOf.setCell ?_ (by first | exact Nat.le_refl _ | (simp; done) | omega | (simp; omega)) _))))).calls.mono ?_
  rintro e _ ⟨rfl, x4, rfl⟩
  go_wp2_with fail
  go_returns
  exact ⟨rfl, by (repeat (first | (with_reducible exact SinceOf.refl _) | (with_reducible assumption) | (with_reducible refine SinceOf.alloc ?_ _) | (with_reducible refine SinceOf.drew ?_) | (with_reducible refine SinceOf.drewN ?_ _) | (with_reducible refine SinceOf.later ?_ _) | (with_reducible refine SinceOf.further ?_ _) | (with_reducible refine SinceOf.setCell ?_ (by first | exact Nat.le_refl _ | (simp; done) | omega | (simp; omega)) _)))⟩
end Go.Proofs.Yticmfmcflikneaa
