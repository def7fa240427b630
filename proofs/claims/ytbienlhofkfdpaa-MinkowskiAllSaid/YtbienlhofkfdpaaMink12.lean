/- Layer 15: the examples of the document. -/
import Derived.Test.YtbienlhofkfdpaaMink11
namespace Go.Proofs.Ytbienlhofkfdpaa
open Go.RowKit Go.Sort
set_option linter.unusedVariables false
set_option linter.unusedSimpArgs false
attribute [local go_sem ↓] Go.wp_at_zero Go.wp_at_succ

def awA : List Pt := [(0, 0), (2, 0), (2, 2), (0, 2)]
def awB : List Pt := [(0, 0), (1, 0), (0, 1)]
def awS : List Pt := [(0, 0), (3, 0), (3, 2), (2, 3), (0, 3)]
theorem awA_valid : validB awA = true := by decide +kernel
theorem awB_valid : validB awB = true := by decide +kernel
theorem awS_valid : validB awS = true := by decide +kernel
theorem awS_row : rowM awS 1 = (1, 2, true) := by decide +kernel
theorem awS_sum : sumOut (addW (at0 awA 0) (at0 awB 0)) (insE (dirsK (rotL 0 awA) awA.length ++ dirsK (rotL 0 awB) awB.length)) = (awS, 0) := by decide +kernel
theorem awake_res {out : List Pt × Int} (h : SumRes insR awA awB out) : out = (awS, 0) := by
  obtain ⟨k, m, T, hk, h1, hm, h2, hT, rfl⟩ := h
  unfold insR at hT
  subst hT
  have hk0 : k = 0 := by
    have := h1 0 (by decide)
    rcases Nat.lt_or_ge k 1 with q | q
    · omega
    · have hk4 : k < 4 := hk
      obtain rfl | rfl | rfl : k = 1 ∨ k = 2 ∨ k = 3 := by omega
      all_goals exact absurd (by unfold lexy; decide) this
  have hm0 : m = 0 := by
    have := h2 0 (by decide)
    rcases Nat.lt_or_ge m 1 with q | q
    · omega
    · have hm3 : m < 3 := hm
      obtain rfl | rfl : m = 1 ∨ m = 2 := by omega
      all_goals exact absurd (by unfold lexy; decide) this
  rw [hk0, hm0]
  exact awS_sum
end Go.Proofs.Ytbienlhofkfdpaa
