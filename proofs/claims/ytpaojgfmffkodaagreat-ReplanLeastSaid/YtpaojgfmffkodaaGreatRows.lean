/-
  No cell of these rows narrows 'for every input' (looked for: loops, veiled, ifaces, maps, wideKeys, modest, calm, conditions, laid).
  DERIVED. THE GIVEN ROWS OF THIS SEAT. 6 by the template 'for every input the law returns true; each argument reads behind the call as it read before'; 0 by the template 'total and deterministic' (their statements: YtpaojgfmffkodaaGreatTotals.lean).
  GIVEN WITH THE SEED: the statements are not yours to turn. If you find one false, say at which input.
  Laid BY PROGRAM, IN A SANDBOX (cutbox-rows.mjs): the forced cells as the released guide's own fill.sh prints them over the translation 18f1c508911cb1c2… (all of the seat's roots in one cut). By AI agents, Wed Nov 11 2026. No macro, syntax, notation, axiom, sorry.
-/
import Derived.Test.YtpaojgfmffkodaaGreatChecked
import GoSem.Claim
import GoSem.ClaimJoined
import GoSem.ClaimMapViews
import Derived.JoinedTies
import Derived.KernelRfl
namespace Go.Proofs.YtpaojgfmffkodaaGreat
/- THE CELL 'sum', in the pinned program and in every row, IS THE sha256 OF THE DUMP (.gsa) THAT YtpaojgfmffkodaaGreatProg.lean LOADS. Nothing in Lean hashes anything: it is a label: what it is worth is what the hold of that sum in a sandbox is worth. -/
noncomputable def Tryz.pinned : Pinned := { name := "ytpaojgfmffkodaagreat", sum := "18f1c508911cb1c20d3f63705d8ea170488864fae47f08d5163429031da815fc", checked := Tryz.checked }
namespace Rows
def none {H : Type} : Left H := { results := [], args := [] }

/-- 'fretsawlaw54.ReplanApply': WHATEVER THE INPUT: true; the input reads as it did. -/
def replanApplySpec : ChangeSpec := { name := "replanApply", fn := fun _ => fun
  | [d] => { results := [.lit (.bool true)], args := [d] }
  | _ => none }
def replanApplyRow : OpenClaim := { program := "ytpaojgfmffkodaagreat", sum := "18f1c508911cb1c20d3f63705d8ea170488864fae47f08d5163429031da815fc", func := "fretsaw/fretsawlaw54.ReplanApply", spec := "replanApply", unfollowed := true, recurses := true, apart := false }
def ReplanApplySaid : Prop := replanApplyRow.holds Tryz.pinned (OpenSpec.ofChange replanApplySpec)

/-- ITS FALSE NEIGHBOUR: 'it returns false'. Refute it at one input. -/
def replanApplyWrong : ChangeSpec := { name := "replanApply", fn := fun _ => fun
  | [d] => { results := [.lit (.bool false)], args := [d] }
  | _ => none }
def ReplanApplyWrongFalsely : Prop := replanApplyRow.holds Tryz.pinned (OpenSpec.ofChange replanApplyWrong)

/-- 'fretsawlaw54.ReplanKeep': WHATEVER THE INPUT: true; the input reads as it did. -/
def replanKeepSpec : ChangeSpec := { name := "replanKeep", fn := fun _ => fun
  | [d1, d2] => { results := [.lit (.bool true)], args := [d1, d2] }
  | _ => none }
def replanKeepRow : OpenClaim := { program := "ytpaojgfmffkodaagreat", sum := "18f1c508911cb1c20d3f63705d8ea170488864fae47f08d5163429031da815fc", func := "fretsaw/fretsawlaw54.ReplanKeep", spec := "replanKeep", unfollowed := true, recurses := true, apart := false }
def ReplanKeepSaid : Prop := replanKeepRow.holds Tryz.pinned (OpenSpec.ofChange replanKeepSpec)

/-- ITS FALSE NEIGHBOUR: 'it returns false'. Refute it at one input. -/
def replanKeepWrong : ChangeSpec := { name := "replanKeep", fn := fun _ => fun
  | [d1, d2] => { results := [.lit (.bool false)], args := [d1, d2] }
  | _ => none }
def ReplanKeepWrongFalsely : Prop := replanKeepRow.holds Tryz.pinned (OpenSpec.ofChange replanKeepWrong)

/-- 'fretsawlaw54.ReplanLeast': WHATEVER THE INPUT: true; the input reads as it did. -/
def replanLeastSpec : ChangeSpec := { name := "replanLeast", fn := fun _ => fun
  | [d1, d2] => { results := [.lit (.bool true)], args := [d1, d2] }
  | _ => none }
def replanLeastRow : OpenClaim := { program := "ytpaojgfmffkodaagreat", sum := "18f1c508911cb1c20d3f63705d8ea170488864fae47f08d5163429031da815fc", func := "fretsaw/fretsawlaw54.ReplanLeast", spec := "replanLeast", unfollowed := true, recurses := true, apart := false }
def ReplanLeastSaid : Prop := replanLeastRow.holds Tryz.pinned (OpenSpec.ofChange replanLeastSpec)

/-- ITS FALSE NEIGHBOUR: 'it returns false'. Refute it at one input. -/
def replanLeastWrong : ChangeSpec := { name := "replanLeast", fn := fun _ => fun
  | [d1, d2] => { results := [.lit (.bool false)], args := [d1, d2] }
  | _ => none }
def ReplanLeastWrongFalsely : Prop := replanLeastRow.holds Tryz.pinned (OpenSpec.ofChange replanLeastWrong)

/-- 'fretsawlaw54.ReplanValid': WHATEVER THE INPUT: true; the input reads as it did. -/
def replanValidSpec : ChangeSpec := { name := "replanValid", fn := fun _ => fun
  | [d] => { results := [.lit (.bool true)], args := [d] }
  | _ => none }
def replanValidRow : OpenClaim := { program := "ytpaojgfmffkodaagreat", sum := "18f1c508911cb1c20d3f63705d8ea170488864fae47f08d5163429031da815fc", func := "fretsaw/fretsawlaw54.ReplanValid", spec := "replanValid", unfollowed := true, recurses := true, apart := false }
def ReplanValidSaid : Prop := replanValidRow.holds Tryz.pinned (OpenSpec.ofChange replanValidSpec)

/-- ITS FALSE NEIGHBOUR: 'it returns false'. Refute it at one input. -/
def replanValidWrong : ChangeSpec := { name := "replanValid", fn := fun _ => fun
  | [d] => { results := [.lit (.bool false)], args := [d] }
  | _ => none }
def ReplanValidWrongFalsely : Prop := replanValidRow.holds Tryz.pinned (OpenSpec.ofChange replanValidWrong)

/-- 'fretsawlaw54.ReplanNothing': WHATEVER THE INPUT: true; the input reads as it did. -/
def replanNothingSpec : ChangeSpec := { name := "replanNothing", fn := fun _ => fun
  | [d] => { results := [.lit (.bool true)], args := [d] }
  | _ => none }
def replanNothingRow : OpenClaim := { program := "ytpaojgfmffkodaagreat", sum := "18f1c508911cb1c20d3f63705d8ea170488864fae47f08d5163429031da815fc", func := "fretsaw/fretsawlaw54.ReplanNothing", spec := "replanNothing", unfollowed := true, recurses := true, apart := false }
def ReplanNothingSaid : Prop := replanNothingRow.holds Tryz.pinned (OpenSpec.ofChange replanNothingSpec)

/-- ITS FALSE NEIGHBOUR: 'it returns false'. Refute it at one input. -/
def replanNothingWrong : ChangeSpec := { name := "replanNothing", fn := fun _ => fun
  | [d] => { results := [.lit (.bool false)], args := [d] }
  | _ => none }
def ReplanNothingWrongFalsely : Prop := replanNothingRow.holds Tryz.pinned (OpenSpec.ofChange replanNothingWrong)

/-- 'fretsawlaw54.ReplanLocal': WHATEVER THE INPUT: true; the input reads as it did. -/
def replanLocalSpec : ChangeSpec := { name := "replanLocal", fn := fun _ => fun
  | [d] => { results := [.lit (.bool true)], args := [d] }
  | _ => none }
def replanLocalRow : OpenClaim := { program := "ytpaojgfmffkodaagreat", sum := "18f1c508911cb1c20d3f63705d8ea170488864fae47f08d5163429031da815fc", func := "fretsaw/fretsawlaw54.ReplanLocal", spec := "replanLocal", unfollowed := true, recurses := true, apart := false }
def ReplanLocalSaid : Prop := replanLocalRow.holds Tryz.pinned (OpenSpec.ofChange replanLocalSpec)

/-- ITS FALSE NEIGHBOUR: 'it returns false'. Refute it at one input. -/
def replanLocalWrong : ChangeSpec := { name := "replanLocal", fn := fun _ => fun
  | [d] => { results := [.lit (.bool false)], args := [d] }
  | _ => none }
def ReplanLocalWrongFalsely : Prop := replanLocalRow.holds Tryz.pinned (OpenSpec.ofChange replanLocalWrong)

/- THE SECOND FORM. 'bulk': how many values and letters a reading holds, each counted each time it is reached (what is shared counts as often as it is met; a slice's spare places count too). A statement '..UptoSaid' is the law's where the arguments, and the package variables that the reading takes, are together of bulk at most 1048576: NARROWER than '..Said'. Prove '..Said' where nothing that the law and all that it calls make is longer than what came in: it says more and counts as full. Else prove '..UptoSaid'. A law counts once. -/
mutual
def uptoBulk {H : Type} : DataW H → Nat
  | .lit (.string bytes) => bytes.length + 1
  | .lit _ => 1
  | .nil => 1
  | .ptr d => uptoBulk d + 1
  | .slice elems spare => uptoBulkAll elems + uptoBulkAll spare + 1
  | .agg parts => uptoBulkAll parts + 1
  | .iface _ d => uptoBulk d + 1
  | .map entries => uptoBulkEntries entries + 1
  | .held _ => 1
def uptoBulkAll {H : Type} : List (DataW H) → Nat
  | [] => 0
  | d :: r => uptoBulk d + uptoBulkAll r
def uptoBulkEntries {H : Type} : List (Lit × DataW H) → Nat
  | [] => 0
  | x :: r => uptoBulkEntry x + uptoBulkEntries r
def uptoBulkEntry {H : Type} : Lit × DataW H → Nat
  | (.string bytes, d) => bytes.length + uptoBulk d + 1
  | (_, d) => uptoBulk d + 1
 end
def uptoSmall : (H : Type) → List (DataW H) → Bool := fun _ ds => decide (uptoBulkAll ds ≤ 1048576)
def OpenSpec.upto (s : _root_.Go.ChangeSpec) : _root_.Go.OpenSpec := { _root_.Go.OpenSpec.ofChange s with cond := some uptoSmall }

/-- 'fretsawlaw54.ReplanApply', WHERE WHAT IT READS IS OF BULK AT MOST 1048576: true; the input reads as it did. -/
def replanApplyUptoRow : OpenClaim := { program := "ytpaojgfmffkodaagreat", sum := "18f1c508911cb1c20d3f63705d8ea170488864fae47f08d5163429031da815fc", func := "fretsaw/fretsawlaw54.ReplanApply", spec := "replanApply", unfollowed := true, recurses := true, apart := false, narrowed := true }
def ReplanApplyUptoSaid : Prop := replanApplyUptoRow.holds Tryz.pinned (OpenSpec.upto replanApplySpec)

/-- 'fretsawlaw54.ReplanKeep', WHERE WHAT IT READS IS OF BULK AT MOST 1048576: true; the input reads as it did. -/
def replanKeepUptoRow : OpenClaim := { program := "ytpaojgfmffkodaagreat", sum := "18f1c508911cb1c20d3f63705d8ea170488864fae47f08d5163429031da815fc", func := "fretsaw/fretsawlaw54.ReplanKeep", spec := "replanKeep", unfollowed := true, recurses := true, apart := false, narrowed := true }
def ReplanKeepUptoSaid : Prop := replanKeepUptoRow.holds Tryz.pinned (OpenSpec.upto replanKeepSpec)

/-- 'fretsawlaw54.ReplanLeast', WHERE WHAT IT READS IS OF BULK AT MOST 1048576: true; the input reads as it did. -/
def replanLeastUptoRow : OpenClaim := { program := "ytpaojgfmffkodaagreat", sum := "18f1c508911cb1c20d3f63705d8ea170488864fae47f08d5163429031da815fc", func := "fretsaw/fretsawlaw54.ReplanLeast", spec := "replanLeast", unfollowed := true, recurses := true, apart := false, narrowed := true }
def ReplanLeastUptoSaid : Prop := replanLeastUptoRow.holds Tryz.pinned (OpenSpec.upto replanLeastSpec)

/-- 'fretsawlaw54.ReplanValid', WHERE WHAT IT READS IS OF BULK AT MOST 1048576: true; the input reads as it did. -/
def replanValidUptoRow : OpenClaim := { program := "ytpaojgfmffkodaagreat", sum := "18f1c508911cb1c20d3f63705d8ea170488864fae47f08d5163429031da815fc", func := "fretsaw/fretsawlaw54.ReplanValid", spec := "replanValid", unfollowed := true, recurses := true, apart := false, narrowed := true }
def ReplanValidUptoSaid : Prop := replanValidUptoRow.holds Tryz.pinned (OpenSpec.upto replanValidSpec)

/-- 'fretsawlaw54.ReplanNothing', WHERE WHAT IT READS IS OF BULK AT MOST 1048576: true; the input reads as it did. -/
def replanNothingUptoRow : OpenClaim := { program := "ytpaojgfmffkodaagreat", sum := "18f1c508911cb1c20d3f63705d8ea170488864fae47f08d5163429031da815fc", func := "fretsaw/fretsawlaw54.ReplanNothing", spec := "replanNothing", unfollowed := true, recurses := true, apart := false, narrowed := true }
def ReplanNothingUptoSaid : Prop := replanNothingUptoRow.holds Tryz.pinned (OpenSpec.upto replanNothingSpec)

/-- 'fretsawlaw54.ReplanLocal', WHERE WHAT IT READS IS OF BULK AT MOST 1048576: true; the input reads as it did. -/
def replanLocalUptoRow : OpenClaim := { program := "ytpaojgfmffkodaagreat", sum := "18f1c508911cb1c20d3f63705d8ea170488864fae47f08d5163429031da815fc", func := "fretsaw/fretsawlaw54.ReplanLocal", spec := "replanLocal", unfollowed := true, recurses := true, apart := false, narrowed := true }
def ReplanLocalUptoSaid : Prop := replanLocalUptoRow.holds Tryz.pinned (OpenSpec.upto replanLocalSpec)

end Rows
end Go.Proofs.YtpaojgfmffkodaaGreat
