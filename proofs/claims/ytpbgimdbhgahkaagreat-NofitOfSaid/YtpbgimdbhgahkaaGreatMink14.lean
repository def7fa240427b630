/- Layer 15: the examples of the document. -/
import Derived.Test.YtpbgimdbhgahkaaGreatMink11
namespace Go.Proofs.YtpbgimdbhgahkaaGreat
open Go.RowKit Go.Sort
set_option linter.unusedVariables false
set_option linter.unusedSimpArgs false
attribute [local go_sem ↓] Go.wp_at_zero Go.wp_at_succ

def awA : List Pt := [(0, 0), (2, 0), (2, 2), (0, 2)]
def awB : List Pt := [(0, 0), (1, 0), (0, 1)]
def awS : List Pt := [(0, 0), (3, 0), (3, 2), (2, 3), (0, 3)]
theorem awA_valid : validB awA = true := by decide +kernel
theorem awB_valid : validB awB = true := by decide +kernel
theorem awS_valid : validB awS = true := by decide +kernel
theorem awS_row : rowM awS 1 = (1, 2, true) := by decide +kernel
theorem awS_sum : sumOut (addW (at0 awA 0) (at0 awB 0)) (insE (dirsK (rotL 0 awA) awA.length ++ dirsK (rotL 0 awB) awB.length)) = (awS, 0) := by decide +kernel
theorem awake_res {out : List Pt × Int} (h : SumRes insR awA awB out) : out = (awS, 0) := by
  obtain ⟨k, m, T, hk, h1, hm, h2, hT, rfl⟩ := h
  unfold insR at hT
  subst hT
  have hk0 : k = 0 := by
    have := h1 0 (by decide)
    rcases Nat.lt_or_ge k 1 with q | q
    · omega
    · have hk4 : k < 4 := hk
      obtain rfl | rfl | rfl : k = 1 ∨ k = 2 ∨ k = 3 := by omega
      all_goals exact absurd (by unfold lexy; decide) this
  have hm0 : m = 0 := by
    have := h2 0 (by decide)
    rcases Nat.lt_or_ge m 1 with q | q
    · omega
    · have hm3 : m < 3 := hm
      obtain rfl | rfl : m = 1 ∨ m = 2 := by omega
      all_goals exact absurd (by unfold lexy; decide) this
  rw [hk0, hm0]
  exact awS_sum
end Go.Proofs.YtpbgimdbhgahkaaGreat
/- Layer 15: awake (its walk). -/
namespace Go.Proofs.YtpbgimdbhgahkaaGreat
open Go.RowKit Go.Sort
set_option linter.unusedVariables false
set_option linter.unusedSimpArgs false
attribute [local go_sem ↓] Go.wp_at_zero Go.wp_at_succ

def cellsV (l : List Pt) : Array Value := (l.flatMap encV).toArray
end Go.Proofs.YtpbgimdbhgahkaaGreat
/- Layer 15: the walk of MinkowskiRow. -/
namespace Go.Proofs.YtpbgimdbhgahkaaGreat
open Go.RowKit Go.Sort
set_option linter.unusedVariables false
set_option linter.unusedSimpArgs false
attribute [local go_sem ↓] Go.wp_at_zero Go.wp_at_succ

theorem where_row (r : List Pt) (x y : Int) : (whereM r (x, y) = 2) ↔ ((rowM r y).2.2 = true ∧ (rowM r y).1 ≤ x ∧ x ≤ (rowM r y).2.1) := by
  unfold whereM rowM
  cases hv : validB r
  · simp
  · have hC := validB_iff.1 hv
    have key := rowR_iff hC y x
    cases hi : inV (x, y)
    · simp only [Bool.and_false, Bool.false_eq_true, if_false, true_and]
      have hno : ¬ RowIn r y x := fun hin => by
        have hb := row_box hC hin
        have hbi := boxOf_is (l := r) (by have := hC.1; omega)
        obtain ⟨p1, m1, q1⟩ := hbi.at1
        obtain ⟨p2, m2, q2⟩ := hbi.at2
        obtain ⟨p3, m3, q3⟩ := hbi.at3
        obtain ⟨p4, m4, q4⟩ := hbi.at4
        have n1 := hC.2.2.1 _ m1
        have n2 := hC.2.2.1 _ m2
        have n3 := hC.2.2.1 _ m3
        have n4 := hC.2.2.1 _ m4
        unfold near at n1 n2 n3 n4
        have : inV (x, y) = true := inV_near.2 (by unfold near; simp only; omega)
        rw [hi] at this
        cases this
      rw [key] at hno
      split
      · simp only; omega
      · simp
    · have hp := place_in (m := 8000) (by omega) hC.2.2.1 (inV_near.1 hi)
      simp only [Bool.and_self, if_true, true_and]
      rw [hp]
      change RowIn r y x ↔ _
      rw [key]
      split
      · simp
      · simp; omega
end Go.Proofs.YtpbgimdbhgahkaaGreat
