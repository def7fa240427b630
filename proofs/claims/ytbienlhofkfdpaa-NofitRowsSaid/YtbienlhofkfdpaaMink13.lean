/- Layer 15: the examples of the document. -/
import Derived.Test.YtbienlhofkfdpaaMink11
namespace Go.Proofs.Ytbienlhofkfdpaa
open Go.RowKit Go.Sort
set_option linter.unusedVariables false
set_option linter.unusedSimpArgs false
attribute [local go_sem ↓] Go.wp_at_zero Go.wp_at_succ

def awA : List Pt := [(0, 0), (2, 0), (2, 2), (0, 2)]
def awB : List Pt := [(0, 0), (1, 0), (0, 1)]
def awS : List Pt := [(0, 0), (3, 0), (3, 2), (2, 3), (0, 3)]
theorem awA_valid : validB awA = true := by decide +kernel
theorem awB_valid : validB awB = true := by decide +kernel
theorem awS_valid : validB awS = true := by decide +kernel
theorem awS_row : rowM awS 1 = (1, 2, true) := by decide +kernel
theorem awS_sum : sumOut (addW (at0 awA 0) (at0 awB 0)) (insE (dirsK (rotL 0 awA) awA.length ++ dirsK (rotL 0 awB) awB.length)) = (awS, 0) := by decide +kernel
theorem awake_res {out : List Pt × Int} (h : SumRes insR awA awB out) : out = (awS, 0) := by
  obtain ⟨k, m, T, hk, h1, hm, h2, hT, rfl⟩ := h
  unfold insR at hT
  subst hT
  have hk0 : k = 0 := by
    have := h1 0 (by decide)
    rcases Nat.lt_or_ge k 1 with q | q
    · omega
    · have hk4 : k < 4 := hk
      obtain rfl | rfl | rfl : k = 1 ∨ k = 2 ∨ k = 3 := by omega
      all_goals exact absurd (by unfold lexy; decide) this
  have hm0 : m = 0 := by
    have := h2 0 (by decide)
    rcases Nat.lt_or_ge m 1 with q | q
    · omega
    · have hm3 : m < 3 := hm
      obtain rfl | rfl : m = 1 ∨ m = 2 := by omega
      all_goals exact absurd (by unfold lexy; decide) this
  rw [hk0, hm0]
  exact awS_sum
end Go.Proofs.Ytbienlhofkfdpaa
/- Layer 15: awake (its walk). -/
namespace Go.Proofs.Ytbienlhofkfdpaa
open Go.RowKit Go.Sort
set_option linter.unusedVariables false
set_option linter.unusedSimpArgs false
attribute [local go_sem ↓] Go.wp_at_zero Go.wp_at_succ

def cellsV (l : List Pt) : Array Value := (l.flatMap encV).toArray
set_option maxRecDepth 100000 in
set_option maxHeartbeats 4000000 in
theorem awake15_any (w : World) : Calls Try.prog 13 #[] w fun e w' => e = .returned (.bool true) ∧ SinceOf w w' := by
  have hA : ∀ W : World, OwnVecs W.heap.size (W.alloc (.cells #[.int .i64 0, .int .i64 0, .int .i64 2, .int .i64 0, .int .i64 2, .int .i64 2, .int .i64 0, .int .i64 2] 37)) (some ⟨W.heap.size, 0, none⟩) 4 awA := fun W => World.ownsRow_lit W _ 4 (Nat.le_refl _) (by unfold maxLen; omega) rfl
  have hB : ∀ W : World, OwnVecs W.heap.size (W.alloc (.cells #[.int .i64 0, .int .i64 0, .int .i64 1, .int .i64 0, .int .i64 0, .int .i64 1] 37)) (some ⟨W.heap.size, 0, none⟩) 3 awB := fun W => World.ownsRow_lit W _ 3 (Nat.le_refl _) (by unfold maxLen; omega) rfl
  have hS : ∀ W : World, OwnVecs W.heap.size (W.alloc (.cells #[.int .i64 0, .int .i64 0, .int .i64 3, .int .i64 0, .int .i64 3, .int .i64 2, .int .i64 2, .int .i64 3, .int .i64 0, .int .i64 3] 37)) (some ⟨W.heap.size, 0, none⟩) 5 awS := fun W => World.ownsRow_lit W _ 5 (Nat.le_refl _) (by unfold maxLen; omega) rfl
  have HH := Lib.hid (And.intro hA (And.intro hB hS))
  clear hA hB hS
  go_enter Try.func13, Try.ntmps13
  go_wp2_with fail
  have SW := fun W (hW1 : IsVecs W (some ⟨w.heap.size, 0, none⟩) 4 awA) (hW2 : IsVecs W (some ⟨w.heap.size + 1, 0, none⟩) 3 awB) => sum_walk sorts20 (some ⟨w.heap.size, 0, none⟩) (some ⟨w.heap.size + 1, 0, none⟩) 4 3 awA awB W hW1 hW2 (by decide) (by decide) awA_valid awB_valid (by decide)
  have la : awA.length = 4 := rfl
  have lb : awB.length = 3 := rfl
  simp only [la, lb] at SW
  refine (SW _ (((HH.out.1 w).isRow encV_len).of (by (repeat (first | (with_reducible exact SinceOf.refl _) | (with_reducible assumption) | (with_reducible refine SinceOf.alloc ?_ _) | (with_reducible refine SinceOf.drew ?_) | (with_reducible refine SinceOf.drewN ?_ _) | (with_reducible refine SinceOf.later ?_ _) | (with_reducible refine SinceOf.further ?_ _) | (with_reducible refine SinceOf.setCell ?_ (by first | exact Nat.le_refl _ | (simp; done) | omega | (simp; omega)) _))))) (by have := (HH.out.2.1 (w.alloc (.cells #[.int .i64 0, .int .i64 0, .int .i64 2, .int .i64 0, .int .i64 2, .int .i64 2, .int .i64 0, .int .i64 2] 37))).isRow encV_len; simpa using this)).mono ?_
  rintro e _ ⟨A', c', out, rfl, hres, hv, hcap, -, ⟨x1, rfl⟩⟩
  obtain rfl := awake_res hres
  have HV := Lib.hid hv
  clear hres hv hcap
  have RW := fun W (hW : SinceOf x1.wd W) => row_any A' c' awS 1 W (HV.out.of hW) (by decide)
  rw [awS_row] at RW
  have VL := fun W (hW : SinceOf x1.wd W) => valid_any A' c' awS W (HV.out.of hW) (by decide)
  rw [awS_valid] at VL
  have l5 : awS.length = 5 := rfl
  simp only [l5] at RW VL
  simp only [l5]
  go_wp2_with fail
  refine (RW _ (by (repeat (first | (with_reducible exact SinceOf.refl _) | (with_reducible assumption) | (with_reducible refine SinceOf.alloc ?_ _) | (with_reducible refine SinceOf.drew ?_) | (with_reducible refine SinceOf.drewN ?_ _) | (with_reducible refine SinceOf.later ?_ _) | (with_reducible refine SinceOf.further ?_ _) | (with_reducible refine SinceOf.setCell ?_ (by first | exact Nat.le_refl _ | (simp; done) | omega | (simp; omega)) _))))).calls.mono ?_
  rintro e _ ⟨rfl, x2, rfl⟩
  go_wp2_with fail
  refine (same08_any A' _ c' 5 awS awS _ (HV.out.of (by (repeat (first | (with_reducible exact SinceOf.refl _) | (with_reducible assumption) | (with_reducible refine SinceOf.alloc ?_ _) | (with_reducible refine SinceOf.drew ?_) | (with_reducible refine SinceOf.drewN ?_ _) | (with_reducible refine SinceOf.later ?_ _) | (with_reducible refine SinceOf.further ?_ _) | (with_reducible refine SinceOf.setCell ?_ (by first | exact Nat.le_refl _ | (simp; done) | omega | (simp; omega)) _))))) ((HH.out.2.2 _).isRow encV_len) (by decide) (by decide)).calls.mono ?_
  rintro e _ ⟨rfl, x3, rfl⟩
  go_wp2_with fail
  refine (VL _ (by (repeat (first | (with_reducible exact SinceOf.refl _) | (with_reducible assumption) | (with_reducible refine SinceOf.alloc ?_ _) | (with_reducible refine SinceOf.drew ?_) | (with_reducible refine SinceOf.drewN ?_ _) | (with_reducible refine SinceOf.later ?_ _) | (with_reducible refine SinceOf.further ?_ _) | (with_reducible refine SinceOf.setCell ?_ (by first | exact Nat.le_refl _ | (simp; done) | omega | (simp; omega)) _))))).calls.mono ?_
  rintro e _ ⟨rfl, x4, rfl⟩
  go_wp2_with fail
  go_returns
  exact ⟨by first | rfl | simp, by (repeat (first | (with_reducible exact SinceOf.refl _) | (with_reducible assumption) | (with_reducible refine SinceOf.alloc ?_ _) | (with_reducible refine SinceOf.drew ?_) | (with_reducible refine SinceOf.drewN ?_ _) | (with_reducible refine SinceOf.later ?_ _) | (with_reducible refine SinceOf.further ?_ _) | (with_reducible refine SinceOf.setCell ?_ (by first | exact Nat.le_refl _ | (simp; done) | omega | (simp; omega)) _)))⟩
end Go.Proofs.Ytbienlhofkfdpaa
