/- Layer 54: the reference's Replan. -/
import Derived.Test.YtpaojgfmffkodaaGreatLRep23
import Derived.Test.YtpaojgfmffkodaaGreatLRep10
namespace Go.Proofs.YtpaojgfmffkodaaGreat
set_option linter.unusedVariables false
set_option linter.unusedSimpArgs false
open Go.RowKit Go.Sort
attribute [local go_sem ↓] Go.wp_at_zero Go.wp_at_succ
end Go.Proofs.YtpaojgfmffkodaaGreat
