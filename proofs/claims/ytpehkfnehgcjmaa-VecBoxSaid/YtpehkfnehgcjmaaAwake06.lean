/- The examples of the document hold: awake of layer 6. -/
import Derived.Test.YtpehkfnehgcjmaaSorted
namespace Go.Proofs.Ytpehkfnehgcjmaa
open Go.RowKit Go.Sort
set_option linter.unusedVariables false

theorem vsort_ex : vsort [(3, 0), (0, 1), (2, 0)] = [(2, 0), (3, 0), (0, 1)] := by
  simp [vsort, List.mergeSort, List.MergeSort.Internal.splitInTwo, leV, ltOf_cmpV]
theorem sortedV_ex : sortedV [(3, 0), (0, 1), (2, 0)] = [(2, 0), (3, 0), (0, 1)] := by
  unfold sortedV; rw [vsort_ex]; decide

theorem awake_any (w : World) : Yields Try.prog 11 #[] w (.bool true) := by
  apply Yields.ret
  have E1 : turnI 0 0 4 0 1 2 = 1 := by decide +kernel
  have E2 : withinB 2 0 2 = true := by decide +kernel
  have E3 : imax (iabs 3) (iabs 0) = 3 := by decide +kernel
  go_enter Try.func11, Try.ntmps11
  go_wp2_with fail
  have hO : OwnVecs w.heap.size (w.alloc (.cells #[.int .i64 3, .int .i64 0, .int .i64 0, .int .i64 1, .int .i64 2, .int .i64 0] 23)) (some ⟨w.heap.size, 0, none⟩) 3 [(3, 0), (0, 1), (2, 0)] := World.ownsRow_lit w _ 3 (Nat.le_refl _) (by decide) rfl
  have hs := sorted_any _ 3 _ _ (hO.isRow encV_len) (by simp)
  rw [sortedV_ex] at hs
  clear hO
  refine hs.mono ?_
  rintro e _ ⟨A1, c1, rfl, hv, ⟨x1, rfl⟩⟩
  clear hs
  obtain ⟨g, off, rfl, hr⟩ := hv.at_ (by simp)
  have c0 := hr.v0 0 (by simp)
  have c1 := hr.v1 0 (by simp)
  have d0 := hr.v0 1 (by simp)
  have d1 := hr.v1 1 (by simp)
  have hg := hr.there
  simp at c0 c1 d0 d1
  clear hr hv
  go_wp2_with fail
  refine (turn_any _ _ _ _ _ _ _).calls.mono ?_
  rintro e _ ⟨rfl, x2, rfl⟩
  go_wp2_with fail
  refine (within_any _ _ _ _).calls.mono ?_
  rintro e _ ⟨rfl, x3, rfl⟩
  go_wp2_with fail
  refine (maxNorm_any _ _ _).calls.mono ?_
  rintro e _ ⟨rfl, x4, rfl⟩
  go_wp2_with fail
  go_returns
  exact ⟨rfl, by (repeat (first | (with_reducible exact SinceOf.refl _) | (with_reducible assumption) | (with_reducible refine SinceOf.alloc ?_ _) | (with_reducible refine SinceOf.drew ?_) | (with_reducible refine SinceOf.drewN ?_ _) | (with_reducible refine SinceOf.later ?_ _) | (with_reducible refine SinceOf.further ?_ _) | (with_reducible refine SinceOf.setCell ?_ (by first | exact Nat.le_refl _ | (simp; done) | omega | (simp; omega)) _)))⟩

end Go.Proofs.Ytpehkfnehgcjmaa
