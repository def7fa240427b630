/-
  No cell of these rows narrows 'for every input' (looked for: loops, veiled, ifaces, maps, wideKeys, modest, calm, conditions, laid).
  DERIVED. THE GIVEN ROWS OF THIS SEAT. 17 by the template 'for every input the law returns true; each argument reads behind the call as it read before'; 0 by the template 'total and deterministic' (their statements: YticmfmcflikneaaTotals.lean).
  GIVEN WITH THE SEED: the statements are not yours to turn. If you find one false, say at which input.
  Laid BY PROGRAM, IN A SANDBOX (cutbox-rows.mjs): the forced cells as the released guide's own fill.sh prints them over the translation a59a9a65c395ce25… (all of the seat's roots in one cut). By AI agents, Wed Nov 11 2026. No macro, syntax, notation, axiom, sorry.
-/
import Derived.Test.YticmfmcflikneaaChecked
import GoSem.Claim
import GoSem.ClaimJoined
import GoSem.ClaimMapViews
import Derived.JoinedTies
import Derived.KernelRfl
namespace Go.Proofs.Yticmfmcflikneaa
/- THE CELL 'sum', in the pinned program and in every row, IS THE sha256 OF THE DUMP (.gsa) THAT YticmfmcflikneaaProg.lean LOADS. Nothing in Lean hashes anything: it is a label: what it is worth is what the hold of that sum in a sandbox is worth. -/
noncomputable def Try.pinned : Pinned := { name := "yticmfmcflikneaa", sum := "a59a9a65c395ce256b55a9feca20c507d9513b1729c337b86e8a26389d21a674", checked := Try.checked }
namespace Rows
def none {H : Type} : Left H := { results := [], args := [] }

/-- 'fretsawlaw10.HullOf': WHATEVER THE INPUT: true; the input reads as it did. -/
def hullOfSpec : ChangeSpec := { name := "hullOf", fn := fun _ => fun
  | [d] => { results := [.lit (.bool true)], args := [d] }
  | _ => none }
def hullOfRow : OpenClaim := { program := "yticmfmcflikneaa", sum := "a59a9a65c395ce256b55a9feca20c507d9513b1729c337b86e8a26389d21a674", func := "fretsaw/fretsawlaw10.HullOf", spec := "hullOf", unfollowed := true, recurses := true, apart := false }
def HullOfSaid : Prop := hullOfRow.holds Try.pinned (OpenSpec.ofChange hullOfSpec)

/-- ITS FALSE NEIGHBOUR: 'it returns false'. Refute it at one input. -/
def hullOfWrong : ChangeSpec := { name := "hullOf", fn := fun _ => fun
  | [d] => { results := [.lit (.bool false)], args := [d] }
  | _ => none }
def HullOfWrongFalsely : Prop := hullOfRow.holds Try.pinned (OpenSpec.ofChange hullOfWrong)

/-- 'fretsawlaw10.HullAgain': WHATEVER THE INPUT: true; the input reads as it did. -/
def hullAgainSpec : ChangeSpec := { name := "hullAgain", fn := fun _ => fun
  | [d1, d2, d3] => { results := [.lit (.bool true)], args := [d1, d2, d3] }
  | _ => none }
def hullAgainRow : OpenClaim := { program := "yticmfmcflikneaa", sum := "a59a9a65c395ce256b55a9feca20c507d9513b1729c337b86e8a26389d21a674", func := "fretsaw/fretsawlaw10.HullAgain", spec := "hullAgain", unfollowed := true, recurses := true, apart := false }
def HullAgainSaid : Prop := hullAgainRow.holds Try.pinned (OpenSpec.ofChange hullAgainSpec)

/-- ITS FALSE NEIGHBOUR: 'it returns false'. Refute it at one input. -/
def hullAgainWrong : ChangeSpec := { name := "hullAgain", fn := fun _ => fun
  | [d1, d2, d3] => { results := [.lit (.bool false)], args := [d1, d2, d3] }
  | _ => none }
def HullAgainWrongFalsely : Prop := hullAgainRow.holds Try.pinned (OpenSpec.ofChange hullAgainWrong)

/-- 'fretsawlaw10.HullWidth': WHATEVER THE INPUT: true; the input reads as it did. -/
def hullWidthSpec : ChangeSpec := { name := "hullWidth", fn := fun _ => fun
  | [d1, d2, d3] => { results := [.lit (.bool true)], args := [d1, d2, d3] }
  | _ => none }
def hullWidthRow : OpenClaim := { program := "yticmfmcflikneaa", sum := "a59a9a65c395ce256b55a9feca20c507d9513b1729c337b86e8a26389d21a674", func := "fretsaw/fretsawlaw10.HullWidth", spec := "hullWidth", unfollowed := true, recurses := true, apart := false }
def HullWidthSaid : Prop := hullWidthRow.holds Try.pinned (OpenSpec.ofChange hullWidthSpec)

/-- ITS FALSE NEIGHBOUR: 'it returns false'. Refute it at one input. -/
def hullWidthWrong : ChangeSpec := { name := "hullWidth", fn := fun _ => fun
  | [d1, d2, d3] => { results := [.lit (.bool false)], args := [d1, d2, d3] }
  | _ => none }
def HullWidthWrongFalsely : Prop := hullWidthRow.holds Try.pinned (OpenSpec.ofChange hullWidthWrong)

/-- 'fretsawlaw10.HullDiameter': WHATEVER THE INPUT: true; the input reads as it did. -/
def hullDiameterSpec : ChangeSpec := { name := "hullDiameter", fn := fun _ => fun
  | [d1, d2] => { results := [.lit (.bool true)], args := [d1, d2] }
  | _ => none }
def hullDiameterRow : OpenClaim := { program := "yticmfmcflikneaa", sum := "a59a9a65c395ce256b55a9feca20c507d9513b1729c337b86e8a26389d21a674", func := "fretsaw/fretsawlaw10.HullDiameter", spec := "hullDiameter", unfollowed := true, recurses := true, apart := false }
def HullDiameterSaid : Prop := hullDiameterRow.holds Try.pinned (OpenSpec.ofChange hullDiameterSpec)

/-- ITS FALSE NEIGHBOUR: 'it returns false'. Refute it at one input. -/
def hullDiameterWrong : ChangeSpec := { name := "hullDiameter", fn := fun _ => fun
  | [d1, d2] => { results := [.lit (.bool false)], args := [d1, d2] }
  | _ => none }
def HullDiameterWrongFalsely : Prop := hullDiameterRow.holds Try.pinned (OpenSpec.ofChange hullDiameterWrong)

/-- 'fretsawlaw10.HullQueries': WHATEVER THE INPUT: true; the input reads as it did. -/
def hullQueriesSpec : ChangeSpec := { name := "hullQueries", fn := fun _ => fun
  | [d1, d2, d3] => { results := [.lit (.bool true)], args := [d1, d2, d3] }
  | _ => none }
def hullQueriesRow : OpenClaim := { program := "yticmfmcflikneaa", sum := "a59a9a65c395ce256b55a9feca20c507d9513b1729c337b86e8a26389d21a674", func := "fretsaw/fretsawlaw10.HullQueries", spec := "hullQueries", unfollowed := true, recurses := true, apart := false }
def HullQueriesSaid : Prop := hullQueriesRow.holds Try.pinned (OpenSpec.ofChange hullQueriesSpec)

/-- ITS FALSE NEIGHBOUR: 'it returns false'. Refute it at one input. -/
def hullQueriesWrong : ChangeSpec := { name := "hullQueries", fn := fun _ => fun
  | [d1, d2, d3] => { results := [.lit (.bool false)], args := [d1, d2, d3] }
  | _ => none }
def HullQueriesWrongFalsely : Prop := hullQueriesRow.holds Try.pinned (OpenSpec.ofChange hullQueriesWrong)

/-- 'fretsawlaw10.HullContains': WHATEVER THE INPUT: true; the input reads as it did. -/
def hullContainsSpec : ChangeSpec := { name := "hullContains", fn := fun _ => fun
  | [d] => { results := [.lit (.bool true)], args := [d] }
  | _ => none }
def hullContainsRow : OpenClaim := { program := "yticmfmcflikneaa", sum := "a59a9a65c395ce256b55a9feca20c507d9513b1729c337b86e8a26389d21a674", func := "fretsaw/fretsawlaw10.HullContains", spec := "hullContains", unfollowed := true, recurses := true, apart := false }
def HullContainsSaid : Prop := hullContainsRow.holds Try.pinned (OpenSpec.ofChange hullContainsSpec)

/-- ITS FALSE NEIGHBOUR: 'it returns false'. Refute it at one input. -/
def hullContainsWrong : ChangeSpec := { name := "hullContains", fn := fun _ => fun
  | [d] => { results := [.lit (.bool false)], args := [d] }
  | _ => none }
def HullContainsWrongFalsely : Prop := hullContainsRow.holds Try.pinned (OpenSpec.ofChange hullContainsWrong)

/-- 'fretsawlaw10.HullLeast': WHATEVER THE INPUT: true; the input reads as it did. -/
def hullLeastSpec : ChangeSpec := { name := "hullLeast", fn := fun _ => fun
  | [d1, d2] => { results := [.lit (.bool true)], args := [d1, d2] }
  | _ => none }
def hullLeastRow : OpenClaim := { program := "yticmfmcflikneaa", sum := "a59a9a65c395ce256b55a9feca20c507d9513b1729c337b86e8a26389d21a674", func := "fretsaw/fretsawlaw10.HullLeast", spec := "hullLeast", unfollowed := true, recurses := true, apart := false }
def HullLeastSaid : Prop := hullLeastRow.holds Try.pinned (OpenSpec.ofChange hullLeastSpec)

/-- ITS FALSE NEIGHBOUR: 'it returns false'. Refute it at one input. -/
def hullLeastWrong : ChangeSpec := { name := "hullLeast", fn := fun _ => fun
  | [d1, d2] => { results := [.lit (.bool false)], args := [d1, d2] }
  | _ => none }
def HullLeastWrongFalsely : Prop := hullLeastRow.holds Try.pinned (OpenSpec.ofChange hullLeastWrong)

/-- 'fretsawlaw18.OffsetOctagon': WHATEVER THE INPUT: true; the input reads as it did. -/
def offsetOctagonSpec : ChangeSpec := { name := "offsetOctagon", fn := fun _ => fun
  | [d] => { results := [.lit (.bool true)], args := [d] }
  | _ => none }
def offsetOctagonRow : OpenClaim := { program := "yticmfmcflikneaa", sum := "a59a9a65c395ce256b55a9feca20c507d9513b1729c337b86e8a26389d21a674", func := "fretsaw/fretsawlaw18.OffsetOctagon", spec := "offsetOctagon", unfollowed := true, recurses := true, apart := false }
def OffsetOctagonSaid : Prop := offsetOctagonRow.holds Try.pinned (OpenSpec.ofChange offsetOctagonSpec)

/-- ITS FALSE NEIGHBOUR: 'it returns false'. Refute it at one input. -/
def offsetOctagonWrong : ChangeSpec := { name := "offsetOctagon", fn := fun _ => fun
  | [d] => { results := [.lit (.bool false)], args := [d] }
  | _ => none }
def OffsetOctagonWrongFalsely : Prop := offsetOctagonRow.holds Try.pinned (OpenSpec.ofChange offsetOctagonWrong)

/-- 'fretsawlaw18.OffsetApart': WHATEVER THE INPUT: true; the input reads as it did. -/
def offsetApartSpec : ChangeSpec := { name := "offsetApart", fn := fun _ => fun
  | [d1, d2, d3] => { results := [.lit (.bool true)], args := [d1, d2, d3] }
  | _ => none }
def offsetApartRow : OpenClaim := { program := "yticmfmcflikneaa", sum := "a59a9a65c395ce256b55a9feca20c507d9513b1729c337b86e8a26389d21a674", func := "fretsaw/fretsawlaw18.OffsetApart", spec := "offsetApart", unfollowed := true, recurses := true, apart := false }
def OffsetApartSaid : Prop := offsetApartRow.holds Try.pinned (OpenSpec.ofChange offsetApartSpec)

/-- ITS FALSE NEIGHBOUR: 'it returns false'. Refute it at one input. -/
def offsetApartWrong : ChangeSpec := { name := "offsetApart", fn := fun _ => fun
  | [d1, d2, d3] => { results := [.lit (.bool false)], args := [d1, d2, d3] }
  | _ => none }
def OffsetApartWrongFalsely : Prop := offsetApartRow.holds Try.pinned (OpenSpec.ofChange offsetApartWrong)

/-- 'fretsawlaw18.OffsetGap': WHATEVER THE INPUT: true; the input reads as it did. -/
def offsetGapSpec : ChangeSpec := { name := "offsetGap", fn := fun _ => fun
  | [d1, d2, d3] => { results := [.lit (.bool true)], args := [d1, d2, d3] }
  | _ => none }
def offsetGapRow : OpenClaim := { program := "yticmfmcflikneaa", sum := "a59a9a65c395ce256b55a9feca20c507d9513b1729c337b86e8a26389d21a674", func := "fretsaw/fretsawlaw18.OffsetGap", spec := "offsetGap", unfollowed := true, recurses := true, apart := false }
def OffsetGapSaid : Prop := offsetGapRow.holds Try.pinned (OpenSpec.ofChange offsetGapSpec)

/-- ITS FALSE NEIGHBOUR: 'it returns false'. Refute it at one input. -/
def offsetGapWrong : ChangeSpec := { name := "offsetGap", fn := fun _ => fun
  | [d1, d2, d3] => { results := [.lit (.bool false)], args := [d1, d2, d3] }
  | _ => none }
def OffsetGapWrongFalsely : Prop := offsetGapRow.holds Try.pinned (OpenSpec.ofChange offsetGapWrong)

/-- 'fretsawlaw18.OffsetSymmetric': WHATEVER THE INPUT: true; the input reads as it did. -/
def offsetSymmetricSpec : ChangeSpec := { name := "offsetSymmetric", fn := fun _ => fun
  | [d1, d2, d3] => { results := [.lit (.bool true)], args := [d1, d2, d3] }
  | _ => none }
def offsetSymmetricRow : OpenClaim := { program := "yticmfmcflikneaa", sum := "a59a9a65c395ce256b55a9feca20c507d9513b1729c337b86e8a26389d21a674", func := "fretsaw/fretsawlaw18.OffsetSymmetric", spec := "offsetSymmetric", unfollowed := true, recurses := true, apart := false }
def OffsetSymmetricSaid : Prop := offsetSymmetricRow.holds Try.pinned (OpenSpec.ofChange offsetSymmetricSpec)

/-- ITS FALSE NEIGHBOUR: 'it returns false'. Refute it at one input. -/
def offsetSymmetricWrong : ChangeSpec := { name := "offsetSymmetric", fn := fun _ => fun
  | [d1, d2, d3] => { results := [.lit (.bool false)], args := [d1, d2, d3] }
  | _ => none }
def OffsetSymmetricWrongFalsely : Prop := offsetSymmetricRow.holds Try.pinned (OpenSpec.ofChange offsetSymmetricWrong)

/-- 'fretsawlaw18.OffsetMonotone': WHATEVER THE INPUT: true; the input reads as it did. -/
def offsetMonotoneSpec : ChangeSpec := { name := "offsetMonotone", fn := fun _ => fun
  | [d1, d2, d3] => { results := [.lit (.bool true)], args := [d1, d2, d3] }
  | _ => none }
def offsetMonotoneRow : OpenClaim := { program := "yticmfmcflikneaa", sum := "a59a9a65c395ce256b55a9feca20c507d9513b1729c337b86e8a26389d21a674", func := "fretsaw/fretsawlaw18.OffsetMonotone", spec := "offsetMonotone", unfollowed := true, recurses := true, apart := false }
def OffsetMonotoneSaid : Prop := offsetMonotoneRow.holds Try.pinned (OpenSpec.ofChange offsetMonotoneSpec)

/-- ITS FALSE NEIGHBOUR: 'it returns false'. Refute it at one input. -/
def offsetMonotoneWrong : ChangeSpec := { name := "offsetMonotone", fn := fun _ => fun
  | [d1, d2, d3] => { results := [.lit (.bool false)], args := [d1, d2, d3] }
  | _ => none }
def OffsetMonotoneWrongFalsely : Prop := offsetMonotoneRow.holds Try.pinned (OpenSpec.ofChange offsetMonotoneWrong)

/-- 'fretsawlaw18.OffsetInvariant': WHATEVER THE INPUT: true; the input reads as it did. -/
def offsetInvariantSpec : ChangeSpec := { name := "offsetInvariant", fn := fun _ => fun
  | [d1, d2, d3] => { results := [.lit (.bool true)], args := [d1, d2, d3] }
  | _ => none }
def offsetInvariantRow : OpenClaim := { program := "yticmfmcflikneaa", sum := "a59a9a65c395ce256b55a9feca20c507d9513b1729c337b86e8a26389d21a674", func := "fretsaw/fretsawlaw18.OffsetInvariant", spec := "offsetInvariant", unfollowed := true, recurses := true, apart := false }
def OffsetInvariantSaid : Prop := offsetInvariantRow.holds Try.pinned (OpenSpec.ofChange offsetInvariantSpec)

/-- ITS FALSE NEIGHBOUR: 'it returns false'. Refute it at one input. -/
def offsetInvariantWrong : ChangeSpec := { name := "offsetInvariant", fn := fun _ => fun
  | [d1, d2, d3] => { results := [.lit (.bool false)], args := [d1, d2, d3] }
  | _ => none }
def OffsetInvariantWrongFalsely : Prop := offsetInvariantRow.holds Try.pinned (OpenSpec.ofChange offsetInvariantWrong)

/-- 'fretsawlaw18.OffsetGrow': WHATEVER THE INPUT: true; the input reads as it did. -/
def offsetGrowSpec : ChangeSpec := { name := "offsetGrow", fn := fun _ => fun
  | [d1, d2] => { results := [.lit (.bool true)], args := [d1, d2] }
  | _ => none }
def offsetGrowRow : OpenClaim := { program := "yticmfmcflikneaa", sum := "a59a9a65c395ce256b55a9feca20c507d9513b1729c337b86e8a26389d21a674", func := "fretsaw/fretsawlaw18.OffsetGrow", spec := "offsetGrow", unfollowed := true, recurses := true, apart := false }
def OffsetGrowSaid : Prop := offsetGrowRow.holds Try.pinned (OpenSpec.ofChange offsetGrowSpec)

/-- ITS FALSE NEIGHBOUR: 'it returns false'. Refute it at one input. -/
def offsetGrowWrong : ChangeSpec := { name := "offsetGrow", fn := fun _ => fun
  | [d1, d2] => { results := [.lit (.bool false)], args := [d1, d2] }
  | _ => none }
def OffsetGrowWrongFalsely : Prop := offsetGrowRow.holds Try.pinned (OpenSpec.ofChange offsetGrowWrong)

/-- 'fretsawlaw18.OffsetDisc': WHATEVER THE INPUT: true; the input reads as it did. -/
def offsetDiscSpec : ChangeSpec := { name := "offsetDisc", fn := fun _ => fun
  | [d] => { results := [.lit (.bool true)], args := [d] }
  | _ => none }
def offsetDiscRow : OpenClaim := { program := "yticmfmcflikneaa", sum := "a59a9a65c395ce256b55a9feca20c507d9513b1729c337b86e8a26389d21a674", func := "fretsaw/fretsawlaw18.OffsetDisc", spec := "offsetDisc", unfollowed := true, recurses := true, apart := false }
def OffsetDiscSaid : Prop := offsetDiscRow.holds Try.pinned (OpenSpec.ofChange offsetDiscSpec)

/-- ITS FALSE NEIGHBOUR: 'it returns false'. Refute it at one input. -/
def offsetDiscWrong : ChangeSpec := { name := "offsetDisc", fn := fun _ => fun
  | [d] => { results := [.lit (.bool false)], args := [d] }
  | _ => none }
def OffsetDiscWrongFalsely : Prop := offsetDiscRow.holds Try.pinned (OpenSpec.ofChange offsetDiscWrong)

/-- 'fretsawlaw18.OffsetContains': WHATEVER THE INPUT: true; the input reads as it did. -/
def offsetContainsSpec : ChangeSpec := { name := "offsetContains", fn := fun _ => fun
  | [d1, d2, d3] => { results := [.lit (.bool true)], args := [d1, d2, d3] }
  | _ => none }
def offsetContainsRow : OpenClaim := { program := "yticmfmcflikneaa", sum := "a59a9a65c395ce256b55a9feca20c507d9513b1729c337b86e8a26389d21a674", func := "fretsaw/fretsawlaw18.OffsetContains", spec := "offsetContains", unfollowed := true, recurses := true, apart := false }
def OffsetContainsSaid : Prop := offsetContainsRow.holds Try.pinned (OpenSpec.ofChange offsetContainsSpec)

/-- ITS FALSE NEIGHBOUR: 'it returns false'. Refute it at one input. -/
def offsetContainsWrong : ChangeSpec := { name := "offsetContains", fn := fun _ => fun
  | [d1, d2, d3] => { results := [.lit (.bool false)], args := [d1, d2, d3] }
  | _ => none }
def OffsetContainsWrongFalsely : Prop := offsetContainsRow.holds Try.pinned (OpenSpec.ofChange offsetContainsWrong)

/-- 'fretsawlaw18.OffsetPoints': WHATEVER THE INPUT: true; the input reads as it did. -/
def offsetPointsSpec : ChangeSpec := { name := "offsetPoints", fn := fun _ => fun
  | [d1, d2, d3] => { results := [.lit (.bool true)], args := [d1, d2, d3] }
  | _ => none }
def offsetPointsRow : OpenClaim := { program := "yticmfmcflikneaa", sum := "a59a9a65c395ce256b55a9feca20c507d9513b1729c337b86e8a26389d21a674", func := "fretsaw/fretsawlaw18.OffsetPoints", spec := "offsetPoints", unfollowed := true, recurses := true, apart := false }
def OffsetPointsSaid : Prop := offsetPointsRow.holds Try.pinned (OpenSpec.ofChange offsetPointsSpec)

/-- ITS FALSE NEIGHBOUR: 'it returns false'. Refute it at one input. -/
def offsetPointsWrong : ChangeSpec := { name := "offsetPoints", fn := fun _ => fun
  | [d1, d2, d3] => { results := [.lit (.bool false)], args := [d1, d2, d3] }
  | _ => none }
def OffsetPointsWrongFalsely : Prop := offsetPointsRow.holds Try.pinned (OpenSpec.ofChange offsetPointsWrong)

/- THE SECOND FORM. 'bulk': how many values and letters a reading holds, each counted each time it is reached (what is shared counts as often as it is met; a slice's spare places count too). A statement '..UptoSaid' is the law's where the arguments, and the package variables that the reading takes, are together of bulk at most 1048576: NARROWER than '..Said'. Prove '..Said' where nothing that the law and all that it calls make is longer than what came in: it says more and counts as full. Else prove '..UptoSaid'. A law counts once. -/
mutual
def uptoBulk {H : Type} : DataW H → Nat
  | .lit (.string bytes) => bytes.length + 1
  | .lit _ => 1
  | .nil => 1
  | .ptr d => uptoBulk d + 1
  | .slice elems spare => uptoBulkAll elems + uptoBulkAll spare + 1
  | .agg parts => uptoBulkAll parts + 1
  | .iface _ d => uptoBulk d + 1
  | .map entries => uptoBulkEntries entries + 1
  | .held _ => 1
def uptoBulkAll {H : Type} : List (DataW H) → Nat
  | [] => 0
  | d :: r => uptoBulk d + uptoBulkAll r
def uptoBulkEntries {H : Type} : List (Lit × DataW H) → Nat
  | [] => 0
  | x :: r => uptoBulkEntry x + uptoBulkEntries r
def uptoBulkEntry {H : Type} : Lit × DataW H → Nat
  | (.string bytes, d) => bytes.length + uptoBulk d + 1
  | (_, d) => uptoBulk d + 1
 end
def uptoSmall : (H : Type) → List (DataW H) → Bool := fun _ ds => decide (uptoBulkAll ds ≤ 1048576)
def OpenSpec.upto (s : _root_.Go.ChangeSpec) : _root_.Go.OpenSpec := { _root_.Go.OpenSpec.ofChange s with cond := some uptoSmall }

/-- 'fretsawlaw10.HullOf', WHERE WHAT IT READS IS OF BULK AT MOST 1048576: true; the input reads as it did. -/
def hullOfUptoRow : OpenClaim := { program := "yticmfmcflikneaa", sum := "a59a9a65c395ce256b55a9feca20c507d9513b1729c337b86e8a26389d21a674", func := "fretsaw/fretsawlaw10.HullOf", spec := "hullOf", unfollowed := true, recurses := true, apart := false, narrowed := true }
def HullOfUptoSaid : Prop := hullOfUptoRow.holds Try.pinned (OpenSpec.upto hullOfSpec)

/-- 'fretsawlaw10.HullAgain', WHERE WHAT IT READS IS OF BULK AT MOST 1048576: true; the input reads as it did. -/
def hullAgainUptoRow : OpenClaim := { program := "yticmfmcflikneaa", sum := "a59a9a65c395ce256b55a9feca20c507d9513b1729c337b86e8a26389d21a674", func := "fretsaw/fretsawlaw10.HullAgain", spec := "hullAgain", unfollowed := true, recurses := true, apart := false, narrowed := true }
def HullAgainUptoSaid : Prop := hullAgainUptoRow.holds Try.pinned (OpenSpec.upto hullAgainSpec)

/-- 'fretsawlaw10.HullWidth', WHERE WHAT IT READS IS OF BULK AT MOST 1048576: true; the input reads as it did. -/
def hullWidthUptoRow : OpenClaim := { program := "yticmfmcflikneaa", sum := "a59a9a65c395ce256b55a9feca20c507d9513b1729c337b86e8a26389d21a674", func := "fretsaw/fretsawlaw10.HullWidth", spec := "hullWidth", unfollowed := true, recurses := true, apart := false, narrowed := true }
def HullWidthUptoSaid : Prop := hullWidthUptoRow.holds Try.pinned (OpenSpec.upto hullWidthSpec)

/-- 'fretsawlaw10.HullDiameter', WHERE WHAT IT READS IS OF BULK AT MOST 1048576: true; the input reads as it did. -/
def hullDiameterUptoRow : OpenClaim := { program := "yticmfmcflikneaa", sum := "a59a9a65c395ce256b55a9feca20c507d9513b1729c337b86e8a26389d21a674", func := "fretsaw/fretsawlaw10.HullDiameter", spec := "hullDiameter", unfollowed := true, recurses := true, apart := false, narrowed := true }
def HullDiameterUptoSaid : Prop := hullDiameterUptoRow.holds Try.pinned (OpenSpec.upto hullDiameterSpec)

/-- 'fretsawlaw10.HullQueries', WHERE WHAT IT READS IS OF BULK AT MOST 1048576: true; the input reads as it did. -/
def hullQueriesUptoRow : OpenClaim := { program := "yticmfmcflikneaa", sum := "a59a9a65c395ce256b55a9feca20c507d9513b1729c337b86e8a26389d21a674", func := "fretsaw/fretsawlaw10.HullQueries", spec := "hullQueries", unfollowed := true, recurses := true, apart := false, narrowed := true }
def HullQueriesUptoSaid : Prop := hullQueriesUptoRow.holds Try.pinned (OpenSpec.upto hullQueriesSpec)

/-- 'fretsawlaw10.HullContains', WHERE WHAT IT READS IS OF BULK AT MOST 1048576: true; the input reads as it did. -/
def hullContainsUptoRow : OpenClaim := { program := "yticmfmcflikneaa", sum := "a59a9a65c395ce256b55a9feca20c507d9513b1729c337b86e8a26389d21a674", func := "fretsaw/fretsawlaw10.HullContains", spec := "hullContains", unfollowed := true, recurses := true, apart := false, narrowed := true }
def HullContainsUptoSaid : Prop := hullContainsUptoRow.holds Try.pinned (OpenSpec.upto hullContainsSpec)

/-- 'fretsawlaw10.HullLeast', WHERE WHAT IT READS IS OF BULK AT MOST 1048576: true; the input reads as it did. -/
def hullLeastUptoRow : OpenClaim := { program := "yticmfmcflikneaa", sum := "a59a9a65c395ce256b55a9feca20c507d9513b1729c337b86e8a26389d21a674", func := "fretsaw/fretsawlaw10.HullLeast", spec := "hullLeast", unfollowed := true, recurses := true, apart := false, narrowed := true }
def HullLeastUptoSaid : Prop := hullLeastUptoRow.holds Try.pinned (OpenSpec.upto hullLeastSpec)

/-- 'fretsawlaw18.OffsetOctagon', WHERE WHAT IT READS IS OF BULK AT MOST 1048576: true; the input reads as it did. -/
def offsetOctagonUptoRow : OpenClaim := { program := "yticmfmcflikneaa", sum := "a59a9a65c395ce256b55a9feca20c507d9513b1729c337b86e8a26389d21a674", func := "fretsaw/fretsawlaw18.OffsetOctagon", spec := "offsetOctagon", unfollowed := true, recurses := true, apart := false, narrowed := true }
def OffsetOctagonUptoSaid : Prop := offsetOctagonUptoRow.holds Try.pinned (OpenSpec.upto offsetOctagonSpec)

/-- 'fretsawlaw18.OffsetApart', WHERE WHAT IT READS IS OF BULK AT MOST 1048576: true; the input reads as it did. -/
def offsetApartUptoRow : OpenClaim := { program := "yticmfmcflikneaa", sum := "a59a9a65c395ce256b55a9feca20c507d9513b1729c337b86e8a26389d21a674", func := "fretsaw/fretsawlaw18.OffsetApart", spec := "offsetApart", unfollowed := true, recurses := true, apart := false, narrowed := true }
def OffsetApartUptoSaid : Prop := offsetApartUptoRow.holds Try.pinned (OpenSpec.upto offsetApartSpec)

/-- 'fretsawlaw18.OffsetGap', WHERE WHAT IT READS IS OF BULK AT MOST 1048576: true; the input reads as it did. -/
def offsetGapUptoRow : OpenClaim := { program := "yticmfmcflikneaa", sum := "a59a9a65c395ce256b55a9feca20c507d9513b1729c337b86e8a26389d21a674", func := "fretsaw/fretsawlaw18.OffsetGap", spec := "offsetGap", unfollowed := true, recurses := true, apart := false, narrowed := true }
def OffsetGapUptoSaid : Prop := offsetGapUptoRow.holds Try.pinned (OpenSpec.upto offsetGapSpec)

/-- 'fretsawlaw18.OffsetSymmetric', WHERE WHAT IT READS IS OF BULK AT MOST 1048576: true; the input reads as it did. -/
def offsetSymmetricUptoRow : OpenClaim := { program := "yticmfmcflikneaa", sum := "a59a9a65c395ce256b55a9feca20c507d9513b1729c337b86e8a26389d21a674", func := "fretsaw/fretsawlaw18.OffsetSymmetric", spec := "offsetSymmetric", unfollowed := true, recurses := true, apart := false, narrowed := true }
def OffsetSymmetricUptoSaid : Prop := offsetSymmetricUptoRow.holds Try.pinned (OpenSpec.upto offsetSymmetricSpec)

/-- 'fretsawlaw18.OffsetMonotone', WHERE WHAT IT READS IS OF BULK AT MOST 1048576: true; the input reads as it did. -/
def offsetMonotoneUptoRow : OpenClaim := { program := "yticmfmcflikneaa", sum := "a59a9a65c395ce256b55a9feca20c507d9513b1729c337b86e8a26389d21a674", func := "fretsaw/fretsawlaw18.OffsetMonotone", spec := "offsetMonotone", unfollowed := true, recurses := true, apart := false, narrowed := true }
def OffsetMonotoneUptoSaid : Prop := offsetMonotoneUptoRow.holds Try.pinned (OpenSpec.upto offsetMonotoneSpec)

/-- 'fretsawlaw18.OffsetInvariant', WHERE WHAT IT READS IS OF BULK AT MOST 1048576: true; the input reads as it did. -/
def offsetInvariantUptoRow : OpenClaim := { program := "yticmfmcflikneaa", sum := "a59a9a65c395ce256b55a9feca20c507d9513b1729c337b86e8a26389d21a674", func := "fretsaw/fretsawlaw18.OffsetInvariant", spec := "offsetInvariant", unfollowed := true, recurses := true, apart := false, narrowed := true }
def OffsetInvariantUptoSaid : Prop := offsetInvariantUptoRow.holds Try.pinned (OpenSpec.upto offsetInvariantSpec)

/-- 'fretsawlaw18.OffsetGrow', WHERE WHAT IT READS IS OF BULK AT MOST 1048576: true; the input reads as it did. -/
def offsetGrowUptoRow : OpenClaim := { program := "yticmfmcflikneaa", sum := "a59a9a65c395ce256b55a9feca20c507d9513b1729c337b86e8a26389d21a674", func := "fretsaw/fretsawlaw18.OffsetGrow", spec := "offsetGrow", unfollowed := true, recurses := true, apart := false, narrowed := true }
def OffsetGrowUptoSaid : Prop := offsetGrowUptoRow.holds Try.pinned (OpenSpec.upto offsetGrowSpec)

/-- 'fretsawlaw18.OffsetDisc', WHERE WHAT IT READS IS OF BULK AT MOST 1048576: true; the input reads as it did. -/
def offsetDiscUptoRow : OpenClaim := { program := "yticmfmcflikneaa", sum := "a59a9a65c395ce256b55a9feca20c507d9513b1729c337b86e8a26389d21a674", func := "fretsaw/fretsawlaw18.OffsetDisc", spec := "offsetDisc", unfollowed := true, recurses := true, apart := false, narrowed := true }
def OffsetDiscUptoSaid : Prop := offsetDiscUptoRow.holds Try.pinned (OpenSpec.upto offsetDiscSpec)

/-- 'fretsawlaw18.OffsetContains', WHERE WHAT IT READS IS OF BULK AT MOST 1048576: true; the input reads as it did. -/
def offsetContainsUptoRow : OpenClaim := { program := "yticmfmcflikneaa", sum := "a59a9a65c395ce256b55a9feca20c507d9513b1729c337b86e8a26389d21a674", func := "fretsaw/fretsawlaw18.OffsetContains", spec := "offsetContains", unfollowed := true, recurses := true, apart := false, narrowed := true }
def OffsetContainsUptoSaid : Prop := offsetContainsUptoRow.holds Try.pinned (OpenSpec.upto offsetContainsSpec)

/-- 'fretsawlaw18.OffsetPoints', WHERE WHAT IT READS IS OF BULK AT MOST 1048576: true; the input reads as it did. -/
def offsetPointsUptoRow : OpenClaim := { program := "yticmfmcflikneaa", sum := "a59a9a65c395ce256b55a9feca20c507d9513b1729c337b86e8a26389d21a674", func := "fretsaw/fretsawlaw18.OffsetPoints", spec := "offsetPoints", unfollowed := true, recurses := true, apart := false, narrowed := true }
def OffsetPointsUptoSaid : Prop := offsetPointsUptoRow.holds Try.pinned (OpenSpec.upto offsetPointsSpec)

end Rows
end Go.Proofs.Yticmfmcflikneaa
