/- The examples of the document hold: awake of layer 51. -/
import Derived.Test.YtbceogoeoojdbaaCal10
namespace Go.Proofs.Ytbceogoeoojdbaa
open Go.RowKit Go.Sort
set_option linter.unusedVariables false

theorem work_ex : workV 24 [(8, 16)] [] 0 48 = (16, 0) := by decide +kernel
theorem finish_ex : finishV 24 [(8, 16)] [] 14 4 = (34, 0) := by
  unfold finishV
  rw [if_pos (by decide +kernel)]
  exact found_at (by omega) (by decide +kernel) (by decide +kernel) (by decide +kernel)
theorem finish_ex2 : finishV 24 [(8, 16)] [(32, 34)] 14 4 = (36, 0) := by
  unfold finishV
  rw [if_pos (by decide +kernel)]
  exact found_at (by omega) (by decide +kernel) (by decide +kernel) (by decide +kernel)
theorem open_ex : openV 24 [(8, 16)] [] 8 = true := by decide +kernel
theorem valid_ex : validB 24 [(8, 16)] [(32, 34)] = true := by decide +kernel
theorem close_ex {err P' : Int} {S' D' : List (Int × Int)} (h : CloseR 24 [(8, 16)] [] 32 34 err P' S' D') : err = 0 ∧ P' = 24 ∧ S' = [(8, 16)] ∧ D' = [(32, 34)] := by
  rcases h with ⟨h, _⟩ | ⟨_, _, M, hM, hs, h⟩
  · exact absurd h (by decide +kernel)
  · have e : M = [(32, 34)] := ascI_unique hM (show ascI 1000000 (-1) [(32, 34)] = true from by decide) (fun t => by rw [hs, inI_nil, inI_cons, inI_nil, Bool.or_false, Bool.false_or])
    subst e
    rcases h with ⟨_, h1, h2, h3, h4⟩ | ⟨h, _⟩
    · exact ⟨h1, h2, h3, h4⟩
    · simp at h

set_option maxRecDepth 100000 in
set_option maxHeartbeats 2000000 in
theorem awake51_any (w : World) : Yields Try.prog 32 #[] w (.bool true) := by
  apply Yields.ret
  have hcal : IsCal ((w.alloc (.cells #[.int .i64 8, .int .i64 16] 55)).alloc (.cells #[.int .i64 24, .slice (some ⟨w.heap.size, 0, none⟩) 1 1, .slice none 0 0] 58)) 24 (some ⟨w.heap.size, 0, none⟩) 1 1 none 0 0 [(8, 16)] [] :=
    ⟨rfl, rfl, (isRow_one w 8 16 _).of ((SinceOf.refl _).alloc _), IsRow.nil _ _ _, by decide, by decide⟩
  have HC := Lib.hid hcal
  clear hcal
  go_enter Try.func32, Try.ntmps32
  go_wp2_with fail
  refine (work_law 0 48 HC.out).calls.mono ?_
  rw [work_ex]
  rintro e _ ⟨rfl, x1, rfl⟩
  unfold pairV
  go_wp2_with fail
  refine (finish_any 14 4 (HC.out.of (by (repeat (first | (with_reducible exact SinceOf.refl _) | (with_reducible assumption) | (with_reducible refine SinceOf.alloc ?_ _) | (with_reducible refine SinceOf.drew ?_) | (with_reducible refine SinceOf.drewN ?_ _) | (with_reducible refine SinceOf.later ?_ _) | (with_reducible refine SinceOf.further ?_ _) | (with_reducible refine SinceOf.setCell ?_ (by first | exact Nat.le_refl _ | (simp; done) | omega | (simp; omega)) _)))))).calls.mono ?_
  rw [finish_ex]
  rintro e _ ⟨rfl, x2, rfl⟩
  unfold pairV
  go_wp2_with fail
  refine (close_any 32 34 (HC.out.of (by (repeat (first | (with_reducible exact SinceOf.refl _) | (with_reducible assumption) | (with_reducible refine SinceOf.alloc ?_ _) | (with_reducible refine SinceOf.drew ?_) | (with_reducible refine SinceOf.drewN ?_ _) | (with_reducible refine SinceOf.later ?_ _) | (with_reducible refine SinceOf.further ?_ _) | (with_reducible refine SinceOf.setCell ?_ (by first | exact Nat.le_refl _ | (simp; done) | omega | (simp; omega)) _)))))).mono ?_
  rintro e _ ⟨⟨y3, rfl⟩, err, P', A', n', c', B', m', d', S', D', rfl, hcal2, hr, -, -⟩
  obtain ⟨rfl, rfl, rfl, rfl⟩ := close_ex hr
  have HC2 := Lib.hid hcal2
  clear hr hcal2
  go_wp2_with fail
  refine (finish_any 14 4 (HC2.out.of (by (repeat (first | (with_reducible exact SinceOf.refl _) | (with_reducible assumption) | (with_reducible refine SinceOf.alloc ?_ _) | (with_reducible refine SinceOf.drew ?_) | (with_reducible refine SinceOf.drewN ?_ _) | (with_reducible refine SinceOf.later ?_ _) | (with_reducible refine SinceOf.further ?_ _) | (with_reducible refine SinceOf.setCell ?_ (by first | exact Nat.le_refl _ | (simp; done) | omega | (simp; omega)) _)))))).calls.mono ?_
  rw [finish_ex2]
  rintro e _ ⟨rfl, x4, rfl⟩
  unfold pairV
  go_wp2_with fail
  refine (open_any 8 (HC.out.of (by (repeat (first | (with_reducible exact SinceOf.refl _) | (with_reducible assumption) | (with_reducible refine SinceOf.alloc ?_ _) | (with_reducible refine SinceOf.drew ?_) | (with_reducible refine SinceOf.drewN ?_ _) | (with_reducible refine SinceOf.later ?_ _) | (with_reducible refine SinceOf.further ?_ _) | (with_reducible refine SinceOf.setCell ?_ (by first | exact Nat.le_refl _ | (simp; done) | omega | (simp; omega)) _)))))).calls.mono ?_
  rw [open_ex]
  rintro e _ ⟨rfl, x5, rfl⟩
  go_wp2_with fail
  refine (HC2.out.valid valid_ex _ (by (repeat (first | (with_reducible exact SinceOf.refl _) | (with_reducible assumption) | (with_reducible refine SinceOf.alloc ?_ _) | (with_reducible refine SinceOf.drew ?_) | (with_reducible refine SinceOf.drewN ?_ _) | (with_reducible refine SinceOf.later ?_ _) | (with_reducible refine SinceOf.further ?_ _) | (with_reducible refine SinceOf.setCell ?_ (by first | exact Nat.le_refl _ | (simp; done) | omega | (simp; omega)) _))))).calls.mono ?_
  rintro e _ ⟨rfl, x6, rfl⟩
  go_wp2_with fail
  go_returns
  exact ⟨rfl, by (repeat (first | (with_reducible exact SinceOf.refl _) | (with_reducible assumption) | (with_reducible refine SinceOf.alloc ?_ _) | (with_reducible refine SinceOf.drew ?_) | (with_reducible refine SinceOf.drewN ?_ _) | (with_reducible refine SinceOf.later ?_ _) | (with_reducible refine SinceOf.further ?_ _) | (with_reducible refine SinceOf.setCell ?_ (by first | exact Nat.le_refl _ | (simp; done) | omega | (simp; omega)) _)))⟩
end Go.Proofs.Ytbceogoeoojdbaa
