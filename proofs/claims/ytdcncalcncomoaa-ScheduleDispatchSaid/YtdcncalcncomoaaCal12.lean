/- The reference's Spans. -/
import Derived.Test.YtdcncalcncomoaaCal11
namespace Go.Proofs.Ytdcncalcncomoaa
open Go.RowKit Go.Sort
set_option linter.unusedVariables false
attribute [local go_sem ↓] Go.wp_at_zero Go.wp_at_succ
section
variable {P : Int} {A B : Option Addr} {n c m d : Nat} {S D : List (Int × Int)} {w : World}
end
theorem SpansR.unique {P : Int} {S D : List (Int × Int)} {a b e e' : Int} {L L' : List (Int × Int)} (h : SpansR P S D a b e L) (k : SpansR P S D a b e' L') : e = e' ∧ L = L' := by
  rcases h with ⟨h1, h2, h3⟩ | ⟨h1, h2, h3, h4⟩ <;> rcases k with ⟨k1, k2, k3⟩ | ⟨k1, k2, k3, k4⟩
  · exact ⟨by rw [h2, k2], by rw [h3, k3]⟩
  · rw [validB_iff.2 k1, k2] at h1; cases h1
  · rw [validB_iff.2 h1, h2] at k1; cases k1
  · exact ⟨by rw [h3, k3], Runs.unique h4 k4 rfl⟩
end Go.Proofs.Ytdcncalcncomoaa
