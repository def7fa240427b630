/- Layer 52 (reference): set-up works. -/
import Derived.Test.YtpaojgfmffkodaaGreatVSch11
import Derived.Test.YtpaojgfmffkodaaGreatVSch20
namespace Go.Proofs.YtpaojgfmffkodaaGreat
set_option linter.unusedVariables false
set_option linter.unusedSimpArgs false
open Go.RowKit Go.Sort
attribute [local go_sem ↓] Go.wp_at_zero Go.wp_at_succ

def lenAt (R : List RowR) (a : Nat) : Nat := (R.getD a ⟨none, 0, []⟩).xs.length
def cellR (R : List RowR) (a k : Nat) : Bool := decide (0 ≤ get2 R a k) && decide (get2 R a k ≤ 1000)
def rowB (R : List RowR) (a : Nat) : Bool := ((lenAt R a : Int) == (R.length : Int) && get2 R a a == 0) && (List.range R.length).all (cellR R a)
end Go.Proofs.YtpaojgfmffkodaaGreat
/- Layer 52 (reference): Check. (printed by gensch32.py) -/
namespace Go.Proofs.YtpaojgfmffkodaaGreat
set_option linter.unusedVariables false
set_option linter.unusedSimpArgs false
open Go.RowKit Go.Sort
attribute [local go_sem ↓] Go.wp_at_zero Go.wp_at_succ

end Go.Proofs.YtpaojgfmffkodaaGreat
