/-
  No cell of these rows narrows 'for every input' (looked for: loops, veiled, ifaces, maps, wideKeys, modest, calm, conditions, laid).
  DERIVED. THE GIVEN ROWS OF THIS SEAT. 8 by the template 'for every input the law returns true; each argument reads behind the call as it read before'; 0 by the template 'total and deterministic' (their statements: YtpehkfnehgcjmaaTotals.lean).
  GIVEN WITH THE SEED: the statements are not yours to turn. If you find one false, say at which input.
  Laid BY PROGRAM, IN A SANDBOX (cutbox-rows.mjs): the forced cells as the released guide's own fill.sh prints them over the translation b463d45727f630ce… (all of the seat's roots in one cut). By AI agents, Wed Nov 11 2026. No macro, syntax, notation, axiom, sorry.
-/
import Derived.Test.YtpehkfnehgcjmaaChecked
import GoSem.Claim
import GoSem.ClaimJoined
import GoSem.ClaimMapViews
import Derived.JoinedTies
import Derived.KernelRfl
namespace Go.Proofs.Ytpehkfnehgcjmaa
/- THE CELL 'sum', in the pinned program and in every row, IS THE sha256 OF THE DUMP (.gsa) THAT YtpehkfnehgcjmaaProg.lean LOADS. Nothing in Lean hashes anything: it is a label: what it is worth is what the hold of that sum in a sandbox is worth. -/
noncomputable def Try.pinned : Pinned := { name := "ytpehkfnehgcjmaa", sum := "b463d45727f630ced38323ef846461a62cd282bc79f22f92cb36d47a4f3e57aa", checked := Try.checked }
namespace Rows
def none {H : Type} : Left H := { results := [], args := [] }

/-- 'fretsawlaw06.VecCompare': WHATEVER THE INPUT: true; the input reads as it did. -/
def vecCompareSpec : ChangeSpec := { name := "vecCompare", fn := fun _ => fun
  | [d1, d2] => { results := [.lit (.bool true)], args := [d1, d2] }
  | _ => none }
def vecCompareRow : OpenClaim := { program := "ytpehkfnehgcjmaa", sum := "b463d45727f630ced38323ef846461a62cd282bc79f22f92cb36d47a4f3e57aa", func := "fretsaw/fretsawlaw06.VecCompare", spec := "vecCompare", unfollowed := true, recurses := true, apart := false }
def VecCompareSaid : Prop := vecCompareRow.holds Try.pinned (OpenSpec.ofChange vecCompareSpec)

/-- ITS FALSE NEIGHBOUR: 'it returns false'. Refute it at one input. -/
def vecCompareWrong : ChangeSpec := { name := "vecCompare", fn := fun _ => fun
  | [d1, d2] => { results := [.lit (.bool false)], args := [d1, d2] }
  | _ => none }
def VecCompareWrongFalsely : Prop := vecCompareRow.holds Try.pinned (OpenSpec.ofChange vecCompareWrong)

/-- 'fretsawlaw06.VecTurns': WHATEVER THE INPUT: true; the input reads as it did. -/
def vecTurnsSpec : ChangeSpec := { name := "vecTurns", fn := fun _ => fun
  | [d] => { results := [.lit (.bool true)], args := [d] }
  | _ => none }
def vecTurnsRow : OpenClaim := { program := "ytpehkfnehgcjmaa", sum := "b463d45727f630ced38323ef846461a62cd282bc79f22f92cb36d47a4f3e57aa", func := "fretsaw/fretsawlaw06.VecTurns", spec := "vecTurns", unfollowed := true, recurses := true, apart := false }
def VecTurnsSaid : Prop := vecTurnsRow.holds Try.pinned (OpenSpec.ofChange vecTurnsSpec)

/-- ITS FALSE NEIGHBOUR: 'it returns false'. Refute it at one input. -/
def vecTurnsWrong : ChangeSpec := { name := "vecTurns", fn := fun _ => fun
  | [d] => { results := [.lit (.bool false)], args := [d] }
  | _ => none }
def VecTurnsWrongFalsely : Prop := vecTurnsRow.holds Try.pinned (OpenSpec.ofChange vecTurnsWrong)

/-- 'fretsawlaw06.VecProducts': WHATEVER THE INPUT: true; the input reads as it did. -/
def vecProductsSpec : ChangeSpec := { name := "vecProducts", fn := fun _ => fun
  | [d1, d2, d3] => { results := [.lit (.bool true)], args := [d1, d2, d3] }
  | _ => none }
def vecProductsRow : OpenClaim := { program := "ytpehkfnehgcjmaa", sum := "b463d45727f630ced38323ef846461a62cd282bc79f22f92cb36d47a4f3e57aa", func := "fretsaw/fretsawlaw06.VecProducts", spec := "vecProducts", unfollowed := true, recurses := true, apart := false }
def VecProductsSaid : Prop := vecProductsRow.holds Try.pinned (OpenSpec.ofChange vecProductsSpec)

/-- ITS FALSE NEIGHBOUR: 'it returns false'. Refute it at one input. -/
def vecProductsWrong : ChangeSpec := { name := "vecProducts", fn := fun _ => fun
  | [d1, d2, d3] => { results := [.lit (.bool false)], args := [d1, d2, d3] }
  | _ => none }
def VecProductsWrongFalsely : Prop := vecProductsRow.holds Try.pinned (OpenSpec.ofChange vecProductsWrong)

/-- 'fretsawlaw06.VecOrder': WHATEVER THE INPUT: true; the input reads as it did. -/
def vecOrderSpec : ChangeSpec := { name := "vecOrder", fn := fun _ => fun
  | [d] => { results := [.lit (.bool true)], args := [d] }
  | _ => none }
def vecOrderRow : OpenClaim := { program := "ytpehkfnehgcjmaa", sum := "b463d45727f630ced38323ef846461a62cd282bc79f22f92cb36d47a4f3e57aa", func := "fretsaw/fretsawlaw06.VecOrder", spec := "vecOrder", unfollowed := true, recurses := true, apart := false }
def VecOrderSaid : Prop := vecOrderRow.holds Try.pinned (OpenSpec.ofChange vecOrderSpec)

/-- ITS FALSE NEIGHBOUR: 'it returns false'. Refute it at one input. -/
def vecOrderWrong : ChangeSpec := { name := "vecOrder", fn := fun _ => fun
  | [d] => { results := [.lit (.bool false)], args := [d] }
  | _ => none }
def VecOrderWrongFalsely : Prop := vecOrderRow.holds Try.pinned (OpenSpec.ofChange vecOrderWrong)

/-- 'fretsawlaw06.VecGroup': WHATEVER THE INPUT: true; the input reads as it did. -/
def vecGroupSpec : ChangeSpec := { name := "vecGroup", fn := fun _ => fun
  | [d1, d2, d3] => { results := [.lit (.bool true)], args := [d1, d2, d3] }
  | _ => none }
def vecGroupRow : OpenClaim := { program := "ytpehkfnehgcjmaa", sum := "b463d45727f630ced38323ef846461a62cd282bc79f22f92cb36d47a4f3e57aa", func := "fretsaw/fretsawlaw06.VecGroup", spec := "vecGroup", unfollowed := true, recurses := true, apart := false }
def VecGroupSaid : Prop := vecGroupRow.holds Try.pinned (OpenSpec.ofChange vecGroupSpec)

/-- ITS FALSE NEIGHBOUR: 'it returns false'. Refute it at one input. -/
def vecGroupWrong : ChangeSpec := { name := "vecGroup", fn := fun _ => fun
  | [d1, d2, d3] => { results := [.lit (.bool false)], args := [d1, d2, d3] }
  | _ => none }
def VecGroupWrongFalsely : Prop := vecGroupRow.holds Try.pinned (OpenSpec.ofChange vecGroupWrong)

/-- 'fretsawlaw06.VecArithmetic': WHATEVER THE INPUT: true; the input reads as it did. -/
def vecArithmeticSpec : ChangeSpec := { name := "vecArithmetic", fn := fun _ => fun
  | [d1, d2, d3] => { results := [.lit (.bool true)], args := [d1, d2, d3] }
  | _ => none }
def vecArithmeticRow : OpenClaim := { program := "ytpehkfnehgcjmaa", sum := "b463d45727f630ced38323ef846461a62cd282bc79f22f92cb36d47a4f3e57aa", func := "fretsaw/fretsawlaw06.VecArithmetic", spec := "vecArithmetic", unfollowed := true, recurses := true, apart := false }
def VecArithmeticSaid : Prop := vecArithmeticRow.holds Try.pinned (OpenSpec.ofChange vecArithmeticSpec)

/-- ITS FALSE NEIGHBOUR: 'it returns false'. Refute it at one input. -/
def vecArithmeticWrong : ChangeSpec := { name := "vecArithmetic", fn := fun _ => fun
  | [d1, d2, d3] => { results := [.lit (.bool false)], args := [d1, d2, d3] }
  | _ => none }
def VecArithmeticWrongFalsely : Prop := vecArithmeticRow.holds Try.pinned (OpenSpec.ofChange vecArithmeticWrong)

/-- 'fretsawlaw06.VecLists': WHATEVER THE INPUT: true; the input reads as it did. -/
def vecListsSpec : ChangeSpec := { name := "vecLists", fn := fun _ => fun
  | [d1, d2, d3] => { results := [.lit (.bool true)], args := [d1, d2, d3] }
  | _ => none }
def vecListsRow : OpenClaim := { program := "ytpehkfnehgcjmaa", sum := "b463d45727f630ced38323ef846461a62cd282bc79f22f92cb36d47a4f3e57aa", func := "fretsaw/fretsawlaw06.VecLists", spec := "vecLists", unfollowed := true, recurses := true, apart := false }
def VecListsSaid : Prop := vecListsRow.holds Try.pinned (OpenSpec.ofChange vecListsSpec)

/-- ITS FALSE NEIGHBOUR: 'it returns false'. Refute it at one input. -/
def vecListsWrong : ChangeSpec := { name := "vecLists", fn := fun _ => fun
  | [d1, d2, d3] => { results := [.lit (.bool false)], args := [d1, d2, d3] }
  | _ => none }
def VecListsWrongFalsely : Prop := vecListsRow.holds Try.pinned (OpenSpec.ofChange vecListsWrong)

/-- 'fretsawlaw06.VecBox': WHATEVER THE INPUT: true; the input reads as it did. -/
def vecBoxSpec : ChangeSpec := { name := "vecBox", fn := fun _ => fun
  | [d] => { results := [.lit (.bool true)], args := [d] }
  | _ => none }
def vecBoxRow : OpenClaim := { program := "ytpehkfnehgcjmaa", sum := "b463d45727f630ced38323ef846461a62cd282bc79f22f92cb36d47a4f3e57aa", func := "fretsaw/fretsawlaw06.VecBox", spec := "vecBox", unfollowed := true, recurses := true, apart := false }
def VecBoxSaid : Prop := vecBoxRow.holds Try.pinned (OpenSpec.ofChange vecBoxSpec)

/-- ITS FALSE NEIGHBOUR: 'it returns false'. Refute it at one input. -/
def vecBoxWrong : ChangeSpec := { name := "vecBox", fn := fun _ => fun
  | [d] => { results := [.lit (.bool false)], args := [d] }
  | _ => none }
def VecBoxWrongFalsely : Prop := vecBoxRow.holds Try.pinned (OpenSpec.ofChange vecBoxWrong)

/- THE SECOND FORM. 'bulk': how many values and letters a reading holds, each counted each time it is reached (what is shared counts as often as it is met; a slice's spare places count too). A statement '..UptoSaid' is the law's where the arguments, and the package variables that the reading takes, are together of bulk at most 1048576: NARROWER than '..Said'. Prove '..Said' where nothing that the law and all that it calls make is longer than what came in: it says more and counts as full. Else prove '..UptoSaid'. A law counts once. -/
mutual
def uptoBulk {H : Type} : DataW H → Nat
  | .lit (.string bytes) => bytes.length + 1
  | .lit _ => 1
  | .nil => 1
  | .ptr d => uptoBulk d + 1
  | .slice elems spare => uptoBulkAll elems + uptoBulkAll spare + 1
  | .agg parts => uptoBulkAll parts + 1
  | .iface _ d => uptoBulk d + 1
  | .map entries => uptoBulkEntries entries + 1
  | .held _ => 1
def uptoBulkAll {H : Type} : List (DataW H) → Nat
  | [] => 0
  | d :: r => uptoBulk d + uptoBulkAll r
def uptoBulkEntries {H : Type} : List (Lit × DataW H) → Nat
  | [] => 0
  | x :: r => uptoBulkEntry x + uptoBulkEntries r
def uptoBulkEntry {H : Type} : Lit × DataW H → Nat
  | (.string bytes, d) => bytes.length + uptoBulk d + 1
  | (_, d) => uptoBulk d + 1
 end
def uptoSmall : (H : Type) → List (DataW H) → Bool := fun _ ds => decide (uptoBulkAll ds ≤ 1048576)
def OpenSpec.upto (s : _root_.Go.ChangeSpec) : _root_.Go.OpenSpec := { _root_.Go.OpenSpec.ofChange s with cond := some uptoSmall }

/-- 'fretsawlaw06.VecCompare', WHERE WHAT IT READS IS OF BULK AT MOST 1048576: true; the input reads as it did. -/
def vecCompareUptoRow : OpenClaim := { program := "ytpehkfnehgcjmaa", sum := "b463d45727f630ced38323ef846461a62cd282bc79f22f92cb36d47a4f3e57aa", func := "fretsaw/fretsawlaw06.VecCompare", spec := "vecCompare", unfollowed := true, recurses := true, apart := false, narrowed := true }
def VecCompareUptoSaid : Prop := vecCompareUptoRow.holds Try.pinned (OpenSpec.upto vecCompareSpec)

/-- 'fretsawlaw06.VecTurns', WHERE WHAT IT READS IS OF BULK AT MOST 1048576: true; the input reads as it did. -/
def vecTurnsUptoRow : OpenClaim := { program := "ytpehkfnehgcjmaa", sum := "b463d45727f630ced38323ef846461a62cd282bc79f22f92cb36d47a4f3e57aa", func := "fretsaw/fretsawlaw06.VecTurns", spec := "vecTurns", unfollowed := true, recurses := true, apart := false, narrowed := true }
def VecTurnsUptoSaid : Prop := vecTurnsUptoRow.holds Try.pinned (OpenSpec.upto vecTurnsSpec)

/-- 'fretsawlaw06.VecProducts', WHERE WHAT IT READS IS OF BULK AT MOST 1048576: true; the input reads as it did. -/
def vecProductsUptoRow : OpenClaim := { program := "ytpehkfnehgcjmaa", sum := "b463d45727f630ced38323ef846461a62cd282bc79f22f92cb36d47a4f3e57aa", func := "fretsaw/fretsawlaw06.VecProducts", spec := "vecProducts", unfollowed := true, recurses := true, apart := false, narrowed := true }
def VecProductsUptoSaid : Prop := vecProductsUptoRow.holds Try.pinned (OpenSpec.upto vecProductsSpec)

/-- 'fretsawlaw06.VecOrder', WHERE WHAT IT READS IS OF BULK AT MOST 1048576: true; the input reads as it did. -/
def vecOrderUptoRow : OpenClaim := { program := "ytpehkfnehgcjmaa", sum := "b463d45727f630ced38323ef846461a62cd282bc79f22f92cb36d47a4f3e57aa", func := "fretsaw/fretsawlaw06.VecOrder", spec := "vecOrder", unfollowed := true, recurses := true, apart := false, narrowed := true }
def VecOrderUptoSaid : Prop := vecOrderUptoRow.holds Try.pinned (OpenSpec.upto vecOrderSpec)

/-- 'fretsawlaw06.VecGroup', WHERE WHAT IT READS IS OF BULK AT MOST 1048576: true; the input reads as it did. -/
def vecGroupUptoRow : OpenClaim := { program := "ytpehkfnehgcjmaa", sum := "b463d45727f630ced38323ef846461a62cd282bc79f22f92cb36d47a4f3e57aa", func := "fretsaw/fretsawlaw06.VecGroup", spec := "vecGroup", unfollowed := true, recurses := true, apart := false, narrowed := true }
def VecGroupUptoSaid : Prop := vecGroupUptoRow.holds Try.pinned (OpenSpec.upto vecGroupSpec)

/-- 'fretsawlaw06.VecArithmetic', WHERE WHAT IT READS IS OF BULK AT MOST 1048576: true; the input reads as it did. -/
def vecArithmeticUptoRow : OpenClaim := { program := "ytpehkfnehgcjmaa", sum := "b463d45727f630ced38323ef846461a62cd282bc79f22f92cb36d47a4f3e57aa", func := "fretsaw/fretsawlaw06.VecArithmetic", spec := "vecArithmetic", unfollowed := true, recurses := true, apart := false, narrowed := true }
def VecArithmeticUptoSaid : Prop := vecArithmeticUptoRow.holds Try.pinned (OpenSpec.upto vecArithmeticSpec)

/-- 'fretsawlaw06.VecLists', WHERE WHAT IT READS IS OF BULK AT MOST 1048576: true; the input reads as it did. -/
def vecListsUptoRow : OpenClaim := { program := "ytpehkfnehgcjmaa", sum := "b463d45727f630ced38323ef846461a62cd282bc79f22f92cb36d47a4f3e57aa", func := "fretsaw/fretsawlaw06.VecLists", spec := "vecLists", unfollowed := true, recurses := true, apart := false, narrowed := true }
def VecListsUptoSaid : Prop := vecListsUptoRow.holds Try.pinned (OpenSpec.upto vecListsSpec)

/-- 'fretsawlaw06.VecBox', WHERE WHAT IT READS IS OF BULK AT MOST 1048576: true; the input reads as it did. -/
def vecBoxUptoRow : OpenClaim := { program := "ytpehkfnehgcjmaa", sum := "b463d45727f630ced38323ef846461a62cd282bc79f22f92cb36d47a4f3e57aa", func := "fretsaw/fretsawlaw06.VecBox", spec := "vecBox", unfollowed := true, recurses := true, apart := false, narrowed := true }
def VecBoxUptoSaid : Prop := vecBoxUptoRow.holds Try.pinned (OpenSpec.upto vecBoxSpec)

end Rows
end Go.Proofs.Ytpehkfnehgcjmaa
