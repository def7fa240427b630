/- Layer 46 (plain): the example of the chapter. -/
import Derived.Test.YtkpnffokjpgalaaKJnt29
namespace Go.Proofs.Ytkpnffokjpgalaa
set_option linter.unusedVariables false
set_option linter.unusedSimpArgs false

def sqR (x y : Int) : List Pt := [(x, y), (x + 4, y), (x + 4, y + 4), (x, y + 4)]
set_option maxRecDepth 100000 in
theorem aw_gaps : gapsR (sqR 0 0) 1 = ([((1, 0), (2, 0))], 0) := by decide +kernel
set_option maxRecDepth 100000 in
theorem aw_once : (onceR [sqR 0 0, sqR 4 0]).1.length = 7 ∧ (onceR [sqR 0 0, sqR 4 0]).2 = 0 ∧ lenE (onceR [sqR 0 0, sqR 4 0]).1 = 28 := by decide +kernel
set_option maxRecDepth 100000 in
theorem aw_share : (shareR (sqR 0 0) (sqR 4 0)).length = 1 := by decide +kernel
set_option maxRecDepth 100000 in
theorem aw_steps : stepsI ((1, 0), (2, 0)) = 1 := by decide +kernel
end Go.Proofs.Ytkpnffokjpgalaa
