/-
  No cell of these rows narrows 'for every input' (looked for: loops, veiled, ifaces, maps, wideKeys, modest, calm, conditions, laid).
  DERIVED. THE GIVEN ROWS OF THIS SEAT. 5 by the template 'for every input the law returns true; each argument reads behind the call as it read before'; 0 by the template 'total and deterministic' (their statements: YtkpnffokjpgalaaGreatTotals.lean).
  GIVEN WITH THE SEED: the statements are not yours to turn. If you find one false, say at which input.
  Laid BY PROGRAM, IN A SANDBOX (cutbox-rows.mjs): the forced cells as the released guide's own fill.sh prints them over the translation dce12e06f66e8fab… (all of the seat's roots in one cut). By AI agents, Wed Nov 11 2026. No macro, syntax, notation, axiom, sorry.
-/
import Derived.Test.YtkpnffokjpgalaaGreatChecked
import GoSem.Claim
import GoSem.ClaimJoined
import GoSem.ClaimMapViews
import Derived.JoinedTies
import Derived.KernelRfl
namespace Go.Proofs.YtkpnffokjpgalaaGreat
/- THE CELL 'sum', in the pinned program and in every row, IS THE sha256 OF THE DUMP (.gsa) THAT YtkpnffokjpgalaaGreatProg.lean LOADS. Nothing in Lean hashes anything: it is a label: what it is worth is what the hold of that sum in a sandbox is worth. -/
noncomputable def Tryz.pinned : Pinned := { name := "ytkpnffokjpgalaagreat", sum := "dce12e06f66e8fab15e3a45ec3d45990e3783b8626398f520b1870680e0a4bd3", checked := Tryz.checked }
namespace Rows
def none {H : Type} : Left H := { results := [], args := [] }

/-- 'fretsawlaw46.JointGaps': WHATEVER THE INPUT: true; the input reads as it did. -/
def jointGapsSpec : ChangeSpec := { name := "jointGaps", fn := fun _ => fun
  | [d1, d2, d3] => { results := [.lit (.bool true)], args := [d1, d2, d3] }
  | _ => none }
def jointGapsRow : OpenClaim := { program := "ytkpnffokjpgalaagreat", sum := "dce12e06f66e8fab15e3a45ec3d45990e3783b8626398f520b1870680e0a4bd3", func := "fretsaw/fretsawlaw46.JointGaps", spec := "jointGaps", unfollowed := true, recurses := true, apart := false }
def JointGapsSaid : Prop := jointGapsRow.holds Tryz.pinned (OpenSpec.ofChange jointGapsSpec)

/-- ITS FALSE NEIGHBOUR: 'it returns false'. Refute it at one input. -/
def jointGapsWrong : ChangeSpec := { name := "jointGaps", fn := fun _ => fun
  | [d1, d2, d3] => { results := [.lit (.bool false)], args := [d1, d2, d3] }
  | _ => none }
def JointGapsWrongFalsely : Prop := jointGapsRow.holds Tryz.pinned (OpenSpec.ofChange jointGapsWrong)

/-- 'fretsawlaw46.JointOnce': WHATEVER THE INPUT: true; the input reads as it did. -/
def jointOnceSpec : ChangeSpec := { name := "jointOnce", fn := fun _ => fun
  | [d] => { results := [.lit (.bool true)], args := [d] }
  | _ => none }
def jointOnceRow : OpenClaim := { program := "ytkpnffokjpgalaagreat", sum := "dce12e06f66e8fab15e3a45ec3d45990e3783b8626398f520b1870680e0a4bd3", func := "fretsaw/fretsawlaw46.JointOnce", spec := "jointOnce", unfollowed := true, recurses := true, apart := false }
def JointOnceSaid : Prop := jointOnceRow.holds Tryz.pinned (OpenSpec.ofChange jointOnceSpec)

/-- ITS FALSE NEIGHBOUR: 'it returns false'. Refute it at one input. -/
def jointOnceWrong : ChangeSpec := { name := "jointOnce", fn := fun _ => fun
  | [d] => { results := [.lit (.bool false)], args := [d] }
  | _ => none }
def JointOnceWrongFalsely : Prop := jointOnceRow.holds Tryz.pinned (OpenSpec.ofChange jointOnceWrong)

/-- 'fretsawlaw46.JointPoints': WHATEVER THE INPUT: true; the input reads as it did. -/
def jointPointsSpec : ChangeSpec := { name := "jointPoints", fn := fun _ => fun
  | [d1, d2] => { results := [.lit (.bool true)], args := [d1, d2] }
  | _ => none }
def jointPointsRow : OpenClaim := { program := "ytkpnffokjpgalaagreat", sum := "dce12e06f66e8fab15e3a45ec3d45990e3783b8626398f520b1870680e0a4bd3", func := "fretsaw/fretsawlaw46.JointPoints", spec := "jointPoints", unfollowed := true, recurses := true, apart := false }
def JointPointsSaid : Prop := jointPointsRow.holds Tryz.pinned (OpenSpec.ofChange jointPointsSpec)

/-- ITS FALSE NEIGHBOUR: 'it returns false'. Refute it at one input. -/
def jointPointsWrong : ChangeSpec := { name := "jointPoints", fn := fun _ => fun
  | [d1, d2] => { results := [.lit (.bool false)], args := [d1, d2] }
  | _ => none }
def JointPointsWrongFalsely : Prop := jointPointsRow.holds Tryz.pinned (OpenSpec.ofChange jointPointsWrong)

/-- 'fretsawlaw46.JointSplit': WHATEVER THE INPUT: true; the input reads as it did. -/
def jointSplitSpec : ChangeSpec := { name := "jointSplit", fn := fun _ => fun
  | [d1, d2, d3] => { results := [.lit (.bool true)], args := [d1, d2, d3] }
  | _ => none }
def jointSplitRow : OpenClaim := { program := "ytkpnffokjpgalaagreat", sum := "dce12e06f66e8fab15e3a45ec3d45990e3783b8626398f520b1870680e0a4bd3", func := "fretsaw/fretsawlaw46.JointSplit", spec := "jointSplit", unfollowed := true, recurses := true, apart := false }
def JointSplitSaid : Prop := jointSplitRow.holds Tryz.pinned (OpenSpec.ofChange jointSplitSpec)

/-- ITS FALSE NEIGHBOUR: 'it returns false'. Refute it at one input. -/
def jointSplitWrong : ChangeSpec := { name := "jointSplit", fn := fun _ => fun
  | [d1, d2, d3] => { results := [.lit (.bool false)], args := [d1, d2, d3] }
  | _ => none }
def JointSplitWrongFalsely : Prop := jointSplitRow.holds Tryz.pinned (OpenSpec.ofChange jointSplitWrong)

/-- 'fretsawlaw46.JointRest': WHATEVER THE INPUT: true; the input reads as it did. -/
def jointRestSpec : ChangeSpec := { name := "jointRest", fn := fun _ => fun
  | [d1, d2, d3] => { results := [.lit (.bool true)], args := [d1, d2, d3] }
  | _ => none }
def jointRestRow : OpenClaim := { program := "ytkpnffokjpgalaagreat", sum := "dce12e06f66e8fab15e3a45ec3d45990e3783b8626398f520b1870680e0a4bd3", func := "fretsaw/fretsawlaw46.JointRest", spec := "jointRest", unfollowed := true, recurses := true, apart := false }
def JointRestSaid : Prop := jointRestRow.holds Tryz.pinned (OpenSpec.ofChange jointRestSpec)

/-- ITS FALSE NEIGHBOUR: 'it returns false'. Refute it at one input. -/
def jointRestWrong : ChangeSpec := { name := "jointRest", fn := fun _ => fun
  | [d1, d2, d3] => { results := [.lit (.bool false)], args := [d1, d2, d3] }
  | _ => none }
def JointRestWrongFalsely : Prop := jointRestRow.holds Tryz.pinned (OpenSpec.ofChange jointRestWrong)

/- THE SECOND FORM. 'bulk': how many values and letters a reading holds, each counted each time it is reached (what is shared counts as often as it is met; a slice's spare places count too). A statement '..UptoSaid' is the law's where the arguments, and the package variables that the reading takes, are together of bulk at most 1048576: NARROWER than '..Said'. Prove '..Said' where nothing that the law and all that it calls make is longer than what came in: it says more and counts as full. Else prove '..UptoSaid'. A law counts once. -/
mutual
def uptoBulk {H : Type} : DataW H → Nat
  | .lit (.string bytes) => bytes.length + 1
  | .lit _ => 1
  | .nil => 1
  | .ptr d => uptoBulk d + 1
  | .slice elems spare => uptoBulkAll elems + uptoBulkAll spare + 1
  | .agg parts => uptoBulkAll parts + 1
  | .iface _ d => uptoBulk d + 1
  | .map entries => uptoBulkEntries entries + 1
  | .held _ => 1
def uptoBulkAll {H : Type} : List (DataW H) → Nat
  | [] => 0
  | d :: r => uptoBulk d + uptoBulkAll r
def uptoBulkEntries {H : Type} : List (Lit × DataW H) → Nat
  | [] => 0
  | x :: r => uptoBulkEntry x + uptoBulkEntries r
def uptoBulkEntry {H : Type} : Lit × DataW H → Nat
  | (.string bytes, d) => bytes.length + uptoBulk d + 1
  | (_, d) => uptoBulk d + 1
 end
def uptoSmall : (H : Type) → List (DataW H) → Bool := fun _ ds => decide (uptoBulkAll ds ≤ 1048576)
def OpenSpec.upto (s : _root_.Go.ChangeSpec) : _root_.Go.OpenSpec := { _root_.Go.OpenSpec.ofChange s with cond := some uptoSmall }

/-- 'fretsawlaw46.JointGaps', WHERE WHAT IT READS IS OF BULK AT MOST 1048576: true; the input reads as it did. -/
def jointGapsUptoRow : OpenClaim := { program := "ytkpnffokjpgalaagreat", sum := "dce12e06f66e8fab15e3a45ec3d45990e3783b8626398f520b1870680e0a4bd3", func := "fretsaw/fretsawlaw46.JointGaps", spec := "jointGaps", unfollowed := true, recurses := true, apart := false, narrowed := true }
def JointGapsUptoSaid : Prop := jointGapsUptoRow.holds Tryz.pinned (OpenSpec.upto jointGapsSpec)

/-- 'fretsawlaw46.JointOnce', WHERE WHAT IT READS IS OF BULK AT MOST 1048576: true; the input reads as it did. -/
def jointOnceUptoRow : OpenClaim := { program := "ytkpnffokjpgalaagreat", sum := "dce12e06f66e8fab15e3a45ec3d45990e3783b8626398f520b1870680e0a4bd3", func := "fretsaw/fretsawlaw46.JointOnce", spec := "jointOnce", unfollowed := true, recurses := true, apart := false, narrowed := true }
def JointOnceUptoSaid : Prop := jointOnceUptoRow.holds Tryz.pinned (OpenSpec.upto jointOnceSpec)

/-- 'fretsawlaw46.JointPoints', WHERE WHAT IT READS IS OF BULK AT MOST 1048576: true; the input reads as it did. -/
def jointPointsUptoRow : OpenClaim := { program := "ytkpnffokjpgalaagreat", sum := "dce12e06f66e8fab15e3a45ec3d45990e3783b8626398f520b1870680e0a4bd3", func := "fretsaw/fretsawlaw46.JointPoints", spec := "jointPoints", unfollowed := true, recurses := true, apart := false, narrowed := true }
def JointPointsUptoSaid : Prop := jointPointsUptoRow.holds Tryz.pinned (OpenSpec.upto jointPointsSpec)

/-- 'fretsawlaw46.JointSplit', WHERE WHAT IT READS IS OF BULK AT MOST 1048576: true; the input reads as it did. -/
def jointSplitUptoRow : OpenClaim := { program := "ytkpnffokjpgalaagreat", sum := "dce12e06f66e8fab15e3a45ec3d45990e3783b8626398f520b1870680e0a4bd3", func := "fretsaw/fretsawlaw46.JointSplit", spec := "jointSplit", unfollowed := true, recurses := true, apart := false, narrowed := true }
def JointSplitUptoSaid : Prop := jointSplitUptoRow.holds Tryz.pinned (OpenSpec.upto jointSplitSpec)

/-- 'fretsawlaw46.JointRest', WHERE WHAT IT READS IS OF BULK AT MOST 1048576: true; the input reads as it did. -/
def jointRestUptoRow : OpenClaim := { program := "ytkpnffokjpgalaagreat", sum := "dce12e06f66e8fab15e3a45ec3d45990e3783b8626398f520b1870680e0a4bd3", func := "fretsaw/fretsawlaw46.JointRest", spec := "jointRest", unfollowed := true, recurses := true, apart := false, narrowed := true }
def JointRestUptoSaid : Prop := jointRestUptoRow.holds Tryz.pinned (OpenSpec.upto jointRestSpec)

end Rows
end Go.Proofs.YtkpnffokjpgalaaGreat
