/-
  No cell of these rows narrows 'for every input' (looked for: loops, veiled, ifaces, maps, wideKeys, modest, calm, conditions, laid).
  DERIVED. THE GIVEN ROWS OF THIS SEAT. 10 by the template 'for every input the law returns true; each argument reads behind the call as it read before'; 0 by the template 'total and deterministic' (their statements: YtbienlhofkfdpaaTotals.lean).
  GIVEN WITH THE SEED: the statements are not yours to turn. If you find one false, say at which input.
  Laid BY PROGRAM, IN A SANDBOX (cutbox-rows.mjs): the forced cells as the released guide's own fill.sh prints them over the translation 265e9098775fb564… (all of the seat's roots in one cut). By AI agents, Wed Nov 11 2026. No macro, syntax, notation, axiom, sorry.
-/
import Derived.Test.YtbienlhofkfdpaaChecked
import GoSem.Claim
import GoSem.ClaimJoined
import GoSem.ClaimMapViews
import Derived.JoinedTies
import Derived.KernelRfl
namespace Go.Proofs.Ytbienlhofkfdpaa
/- THE CELL 'sum', in the pinned program and in every row, IS THE sha256 OF THE DUMP (.gsa) THAT YtbienlhofkfdpaaProg.lean LOADS. Nothing in Lean hashes anything: it is a label: what it is worth is what the hold of that sum in a sandbox is worth. -/
noncomputable def Try.pinned : Pinned := { name := "ytbienlhofkfdpaa", sum := "265e9098775fb56473690ef517d040788939d440e985ea9a91294ebacabf8d5d", checked := Try.checked }
namespace Rows
def none {H : Type} : Left H := { results := [], args := [] }

/-- 'fretsawlaw15.MinkowskiSum': WHATEVER THE INPUT: true; the input reads as it did. -/
def minkowskiSumSpec : ChangeSpec := { name := "minkowskiSum", fn := fun _ => fun
  | [d1, d2] => { results := [.lit (.bool true)], args := [d1, d2] }
  | _ => none }
def minkowskiSumRow : OpenClaim := { program := "ytbienlhofkfdpaa", sum := "265e9098775fb56473690ef517d040788939d440e985ea9a91294ebacabf8d5d", func := "fretsaw/fretsawlaw15.MinkowskiSum", spec := "minkowskiSum", unfollowed := true, recurses := true, apart := false }
def MinkowskiSumSaid : Prop := minkowskiSumRow.holds Try.pinned (OpenSpec.ofChange minkowskiSumSpec)

/-- ITS FALSE NEIGHBOUR: 'it returns false'. Refute it at one input. -/
def minkowskiSumWrong : ChangeSpec := { name := "minkowskiSum", fn := fun _ => fun
  | [d1, d2] => { results := [.lit (.bool false)], args := [d1, d2] }
  | _ => none }
def MinkowskiSumWrongFalsely : Prop := minkowskiSumRow.holds Try.pinned (OpenSpec.ofChange minkowskiSumWrong)

/-- 'fretsawlaw15.MinkowskiAll': WHATEVER THE INPUT: true; the input reads as it did. -/
def minkowskiAllSpec : ChangeSpec := { name := "minkowskiAll", fn := fun _ => fun
  | [d1, d2] => { results := [.lit (.bool true)], args := [d1, d2] }
  | _ => none }
def minkowskiAllRow : OpenClaim := { program := "ytbienlhofkfdpaa", sum := "265e9098775fb56473690ef517d040788939d440e985ea9a91294ebacabf8d5d", func := "fretsaw/fretsawlaw15.MinkowskiAll", spec := "minkowskiAll", unfollowed := true, recurses := true, apart := false }
def MinkowskiAllSaid : Prop := minkowskiAllRow.holds Try.pinned (OpenSpec.ofChange minkowskiAllSpec)

/-- ITS FALSE NEIGHBOUR: 'it returns false'. Refute it at one input. -/
def minkowskiAllWrong : ChangeSpec := { name := "minkowskiAll", fn := fun _ => fun
  | [d1, d2] => { results := [.lit (.bool false)], args := [d1, d2] }
  | _ => none }
def MinkowskiAllWrongFalsely : Prop := minkowskiAllRow.holds Try.pinned (OpenSpec.ofChange minkowskiAllWrong)

/-- 'fretsawlaw15.MinkowskiRow': WHATEVER THE INPUT: true; the input reads as it did. -/
def minkowskiRowSpec : ChangeSpec := { name := "minkowskiRow", fn := fun _ => fun
  | [d1, d2, d3] => { results := [.lit (.bool true)], args := [d1, d2, d3] }
  | _ => none }
def minkowskiRowRow : OpenClaim := { program := "ytbienlhofkfdpaa", sum := "265e9098775fb56473690ef517d040788939d440e985ea9a91294ebacabf8d5d", func := "fretsaw/fretsawlaw15.MinkowskiRow", spec := "minkowskiRow", unfollowed := true, recurses := true, apart := false }
def MinkowskiRowSaid : Prop := minkowskiRowRow.holds Try.pinned (OpenSpec.ofChange minkowskiRowSpec)

/-- ITS FALSE NEIGHBOUR: 'it returns false'. Refute it at one input. -/
def minkowskiRowWrong : ChangeSpec := { name := "minkowskiRow", fn := fun _ => fun
  | [d1, d2, d3] => { results := [.lit (.bool false)], args := [d1, d2, d3] }
  | _ => none }
def MinkowskiRowWrongFalsely : Prop := minkowskiRowRow.holds Try.pinned (OpenSpec.ofChange minkowskiRowWrong)

/-- 'fretsawlaw15.MinkowskiPoints': WHATEVER THE INPUT: true; the input reads as it did. -/
def minkowskiPointsSpec : ChangeSpec := { name := "minkowskiPoints", fn := fun _ => fun
  | [d1, d2, d3] => { results := [.lit (.bool true)], args := [d1, d2, d3] }
  | _ => none }
def minkowskiPointsRow : OpenClaim := { program := "ytbienlhofkfdpaa", sum := "265e9098775fb56473690ef517d040788939d440e985ea9a91294ebacabf8d5d", func := "fretsaw/fretsawlaw15.MinkowskiPoints", spec := "minkowskiPoints", unfollowed := true, recurses := true, apart := false }
def MinkowskiPointsSaid : Prop := minkowskiPointsRow.holds Try.pinned (OpenSpec.ofChange minkowskiPointsSpec)

/-- ITS FALSE NEIGHBOUR: 'it returns false'. Refute it at one input. -/
def minkowskiPointsWrong : ChangeSpec := { name := "minkowskiPoints", fn := fun _ => fun
  | [d1, d2, d3] => { results := [.lit (.bool false)], args := [d1, d2, d3] }
  | _ => none }
def MinkowskiPointsWrongFalsely : Prop := minkowskiPointsRow.holds Try.pinned (OpenSpec.ofChange minkowskiPointsWrong)

/-- 'fretsawlaw15.MinkowskiAlgebra': WHATEVER THE INPUT: true; the input reads as it did. -/
def minkowskiAlgebraSpec : ChangeSpec := { name := "minkowskiAlgebra", fn := fun _ => fun
  | [d1, d2] => { results := [.lit (.bool true)], args := [d1, d2] }
  | _ => none }
def minkowskiAlgebraRow : OpenClaim := { program := "ytbienlhofkfdpaa", sum := "265e9098775fb56473690ef517d040788939d440e985ea9a91294ebacabf8d5d", func := "fretsaw/fretsawlaw15.MinkowskiAlgebra", spec := "minkowskiAlgebra", unfollowed := true, recurses := true, apart := false }
def MinkowskiAlgebraSaid : Prop := minkowskiAlgebraRow.holds Try.pinned (OpenSpec.ofChange minkowskiAlgebraSpec)

/-- ITS FALSE NEIGHBOUR: 'it returns false'. Refute it at one input. -/
def minkowskiAlgebraWrong : ChangeSpec := { name := "minkowskiAlgebra", fn := fun _ => fun
  | [d1, d2] => { results := [.lit (.bool false)], args := [d1, d2] }
  | _ => none }
def MinkowskiAlgebraWrongFalsely : Prop := minkowskiAlgebraRow.holds Try.pinned (OpenSpec.ofChange minkowskiAlgebraWrong)

/-- 'fretsawlaw16.NofitRows': WHATEVER THE INPUT: true; the input reads as it did. -/
def nofitRowsSpec : ChangeSpec := { name := "nofitRows", fn := fun _ => fun
  | [d1, d2] => { results := [.lit (.bool true)], args := [d1, d2] }
  | _ => none }
def nofitRowsRow : OpenClaim := { program := "ytbienlhofkfdpaa", sum := "265e9098775fb56473690ef517d040788939d440e985ea9a91294ebacabf8d5d", func := "fretsaw/fretsawlaw16.NofitRows", spec := "nofitRows", unfollowed := true, recurses := true, apart := false }
def NofitRowsSaid : Prop := nofitRowsRow.holds Try.pinned (OpenSpec.ofChange nofitRowsSpec)

/-- ITS FALSE NEIGHBOUR: 'it returns false'. Refute it at one input. -/
def nofitRowsWrong : ChangeSpec := { name := "nofitRows", fn := fun _ => fun
  | [d1, d2] => { results := [.lit (.bool false)], args := [d1, d2] }
  | _ => none }
def NofitRowsWrongFalsely : Prop := nofitRowsRow.holds Try.pinned (OpenSpec.ofChange nofitRowsWrong)

/-- 'fretsawlaw16.NofitFirst': WHATEVER THE INPUT: true; the input reads as it did. -/
def nofitFirstSpec : ChangeSpec := { name := "nofitFirst", fn := fun _ => fun
  | [d1, d2] => { results := [.lit (.bool true)], args := [d1, d2] }
  | _ => none }
def nofitFirstRow : OpenClaim := { program := "ytbienlhofkfdpaa", sum := "265e9098775fb56473690ef517d040788939d440e985ea9a91294ebacabf8d5d", func := "fretsaw/fretsawlaw16.NofitFirst", spec := "nofitFirst", unfollowed := true, recurses := true, apart := false }
def NofitFirstSaid : Prop := nofitFirstRow.holds Try.pinned (OpenSpec.ofChange nofitFirstSpec)

/-- ITS FALSE NEIGHBOUR: 'it returns false'. Refute it at one input. -/
def nofitFirstWrong : ChangeSpec := { name := "nofitFirst", fn := fun _ => fun
  | [d1, d2] => { results := [.lit (.bool false)], args := [d1, d2] }
  | _ => none }
def NofitFirstWrongFalsely : Prop := nofitFirstRow.holds Try.pinned (OpenSpec.ofChange nofitFirstWrong)

/-- 'fretsawlaw16.NofitTouch': WHATEVER THE INPUT: true; the input reads as it did. -/
def nofitTouchSpec : ChangeSpec := { name := "nofitTouch", fn := fun _ => fun
  | [d1, d2, d3] => { results := [.lit (.bool true)], args := [d1, d2, d3] }
  | _ => none }
def nofitTouchRow : OpenClaim := { program := "ytbienlhofkfdpaa", sum := "265e9098775fb56473690ef517d040788939d440e985ea9a91294ebacabf8d5d", func := "fretsaw/fretsawlaw16.NofitTouch", spec := "nofitTouch", unfollowed := true, recurses := true, apart := false }
def NofitTouchSaid : Prop := nofitTouchRow.holds Try.pinned (OpenSpec.ofChange nofitTouchSpec)

/-- ITS FALSE NEIGHBOUR: 'it returns false'. Refute it at one input. -/
def nofitTouchWrong : ChangeSpec := { name := "nofitTouch", fn := fun _ => fun
  | [d1, d2, d3] => { results := [.lit (.bool false)], args := [d1, d2, d3] }
  | _ => none }
def NofitTouchWrongFalsely : Prop := nofitTouchRow.holds Try.pinned (OpenSpec.ofChange nofitTouchWrong)

/-- 'fretsawlaw16.NofitForbidden': WHATEVER THE INPUT: true; the input reads as it did. -/
def nofitForbiddenSpec : ChangeSpec := { name := "nofitForbidden", fn := fun _ => fun
  | [d1, d2, d3] => { results := [.lit (.bool true)], args := [d1, d2, d3] }
  | _ => none }
def nofitForbiddenRow : OpenClaim := { program := "ytbienlhofkfdpaa", sum := "265e9098775fb56473690ef517d040788939d440e985ea9a91294ebacabf8d5d", func := "fretsaw/fretsawlaw16.NofitForbidden", spec := "nofitForbidden", unfollowed := true, recurses := true, apart := false }
def NofitForbiddenSaid : Prop := nofitForbiddenRow.holds Try.pinned (OpenSpec.ofChange nofitForbiddenSpec)

/-- ITS FALSE NEIGHBOUR: 'it returns false'. Refute it at one input. -/
def nofitForbiddenWrong : ChangeSpec := { name := "nofitForbidden", fn := fun _ => fun
  | [d1, d2, d3] => { results := [.lit (.bool false)], args := [d1, d2, d3] }
  | _ => none }
def NofitForbiddenWrongFalsely : Prop := nofitForbiddenRow.holds Try.pinned (OpenSpec.ofChange nofitForbiddenWrong)

/-- 'fretsawlaw16.NofitExchange': WHATEVER THE INPUT: true; the input reads as it did. -/
def nofitExchangeSpec : ChangeSpec := { name := "nofitExchange", fn := fun _ => fun
  | [d1, d2, d3] => { results := [.lit (.bool true)], args := [d1, d2, d3] }
  | _ => none }
def nofitExchangeRow : OpenClaim := { program := "ytbienlhofkfdpaa", sum := "265e9098775fb56473690ef517d040788939d440e985ea9a91294ebacabf8d5d", func := "fretsaw/fretsawlaw16.NofitExchange", spec := "nofitExchange", unfollowed := true, recurses := true, apart := false }
def NofitExchangeSaid : Prop := nofitExchangeRow.holds Try.pinned (OpenSpec.ofChange nofitExchangeSpec)

/-- ITS FALSE NEIGHBOUR: 'it returns false'. Refute it at one input. -/
def nofitExchangeWrong : ChangeSpec := { name := "nofitExchange", fn := fun _ => fun
  | [d1, d2, d3] => { results := [.lit (.bool false)], args := [d1, d2, d3] }
  | _ => none }
def NofitExchangeWrongFalsely : Prop := nofitExchangeRow.holds Try.pinned (OpenSpec.ofChange nofitExchangeWrong)

/- THE SECOND FORM. 'bulk': how many values and letters a reading holds, each counted each time it is reached (what is shared counts as often as it is met; a slice's spare places count too). A statement '..UptoSaid' is the law's where the arguments, and the package variables that the reading takes, are together of bulk at most 1048576: NARROWER than '..Said'. Prove '..Said' where nothing that the law and all that it calls make is longer than what came in: it says more and counts as full. Else prove '..UptoSaid'. A law counts once. -/
mutual
def uptoBulk {H : Type} : DataW H → Nat
  | .lit (.string bytes) => bytes.length + 1
  | .lit _ => 1
  | .nil => 1
  | .ptr d => uptoBulk d + 1
  | .slice elems spare => uptoBulkAll elems + uptoBulkAll spare + 1
  | .agg parts => uptoBulkAll parts + 1
  | .iface _ d => uptoBulk d + 1
  | .map entries => uptoBulkEntries entries + 1
  | .held _ => 1
def uptoBulkAll {H : Type} : List (DataW H) → Nat
  | [] => 0
  | d :: r => uptoBulk d + uptoBulkAll r
def uptoBulkEntries {H : Type} : List (Lit × DataW H) → Nat
  | [] => 0
  | x :: r => uptoBulkEntry x + uptoBulkEntries r
def uptoBulkEntry {H : Type} : Lit × DataW H → Nat
  | (.string bytes, d) => bytes.length + uptoBulk d + 1
  | (_, d) => uptoBulk d + 1
 end
def uptoSmall : (H : Type) → List (DataW H) → Bool := fun _ ds => decide (uptoBulkAll ds ≤ 1048576)
def OpenSpec.upto (s : _root_.Go.ChangeSpec) : _root_.Go.OpenSpec := { _root_.Go.OpenSpec.ofChange s with cond := some uptoSmall }

/-- 'fretsawlaw15.MinkowskiSum', WHERE WHAT IT READS IS OF BULK AT MOST 1048576: true; the input reads as it did. -/
def minkowskiSumUptoRow : OpenClaim := { program := "ytbienlhofkfdpaa", sum := "265e9098775fb56473690ef517d040788939d440e985ea9a91294ebacabf8d5d", func := "fretsaw/fretsawlaw15.MinkowskiSum", spec := "minkowskiSum", unfollowed := true, recurses := true, apart := false, narrowed := true }
def MinkowskiSumUptoSaid : Prop := minkowskiSumUptoRow.holds Try.pinned (OpenSpec.upto minkowskiSumSpec)

/-- 'fretsawlaw15.MinkowskiAll', WHERE WHAT IT READS IS OF BULK AT MOST 1048576: true; the input reads as it did. -/
def minkowskiAllUptoRow : OpenClaim := { program := "ytbienlhofkfdpaa", sum := "265e9098775fb56473690ef517d040788939d440e985ea9a91294ebacabf8d5d", func := "fretsaw/fretsawlaw15.MinkowskiAll", spec := "minkowskiAll", unfollowed := true, recurses := true, apart := false, narrowed := true }
def MinkowskiAllUptoSaid : Prop := minkowskiAllUptoRow.holds Try.pinned (OpenSpec.upto minkowskiAllSpec)

/-- 'fretsawlaw15.MinkowskiRow', WHERE WHAT IT READS IS OF BULK AT MOST 1048576: true; the input reads as it did. -/
def minkowskiRowUptoRow : OpenClaim := { program := "ytbienlhofkfdpaa", sum := "265e9098775fb56473690ef517d040788939d440e985ea9a91294ebacabf8d5d", func := "fretsaw/fretsawlaw15.MinkowskiRow", spec := "minkowskiRow", unfollowed := true, recurses := true, apart := false, narrowed := true }
def MinkowskiRowUptoSaid : Prop := minkowskiRowUptoRow.holds Try.pinned (OpenSpec.upto minkowskiRowSpec)

/-- 'fretsawlaw15.MinkowskiPoints', WHERE WHAT IT READS IS OF BULK AT MOST 1048576: true; the input reads as it did. -/
def minkowskiPointsUptoRow : OpenClaim := { program := "ytbienlhofkfdpaa", sum := "265e9098775fb56473690ef517d040788939d440e985ea9a91294ebacabf8d5d", func := "fretsaw/fretsawlaw15.MinkowskiPoints", spec := "minkowskiPoints", unfollowed := true, recurses := true, apart := false, narrowed := true }
def MinkowskiPointsUptoSaid : Prop := minkowskiPointsUptoRow.holds Try.pinned (OpenSpec.upto minkowskiPointsSpec)

/-- 'fretsawlaw15.MinkowskiAlgebra', WHERE WHAT IT READS IS OF BULK AT MOST 1048576: true; the input reads as it did. -/
def minkowskiAlgebraUptoRow : OpenClaim := { program := "ytbienlhofkfdpaa", sum := "265e9098775fb56473690ef517d040788939d440e985ea9a91294ebacabf8d5d", func := "fretsaw/fretsawlaw15.MinkowskiAlgebra", spec := "minkowskiAlgebra", unfollowed := true, recurses := true, apart := false, narrowed := true }
def MinkowskiAlgebraUptoSaid : Prop := minkowskiAlgebraUptoRow.holds Try.pinned (OpenSpec.upto minkowskiAlgebraSpec)

/-- 'fretsawlaw16.NofitRows', WHERE WHAT IT READS IS OF BULK AT MOST 1048576: true; the input reads as it did. -/
def nofitRowsUptoRow : OpenClaim := { program := "ytbienlhofkfdpaa", sum := "265e9098775fb56473690ef517d040788939d440e985ea9a91294ebacabf8d5d", func := "fretsaw/fretsawlaw16.NofitRows", spec := "nofitRows", unfollowed := true, recurses := true, apart := false, narrowed := true }
def NofitRowsUptoSaid : Prop := nofitRowsUptoRow.holds Try.pinned (OpenSpec.upto nofitRowsSpec)

/-- 'fretsawlaw16.NofitFirst', WHERE WHAT IT READS IS OF BULK AT MOST 1048576: true; the input reads as it did. -/
def nofitFirstUptoRow : OpenClaim := { program := "ytbienlhofkfdpaa", sum := "265e9098775fb56473690ef517d040788939d440e985ea9a91294ebacabf8d5d", func := "fretsaw/fretsawlaw16.NofitFirst", spec := "nofitFirst", unfollowed := true, recurses := true, apart := false, narrowed := true }
def NofitFirstUptoSaid : Prop := nofitFirstUptoRow.holds Try.pinned (OpenSpec.upto nofitFirstSpec)

/-- 'fretsawlaw16.NofitTouch', WHERE WHAT IT READS IS OF BULK AT MOST 1048576: true; the input reads as it did. -/
def nofitTouchUptoRow : OpenClaim := { program := "ytbienlhofkfdpaa", sum := "265e9098775fb56473690ef517d040788939d440e985ea9a91294ebacabf8d5d", func := "fretsaw/fretsawlaw16.NofitTouch", spec := "nofitTouch", unfollowed := true, recurses := true, apart := false, narrowed := true }
def NofitTouchUptoSaid : Prop := nofitTouchUptoRow.holds Try.pinned (OpenSpec.upto nofitTouchSpec)

/-- 'fretsawlaw16.NofitForbidden', WHERE WHAT IT READS IS OF BULK AT MOST 1048576: true; the input reads as it did. -/
def nofitForbiddenUptoRow : OpenClaim := { program := "ytbienlhofkfdpaa", sum := "265e9098775fb56473690ef517d040788939d440e985ea9a91294ebacabf8d5d", func := "fretsaw/fretsawlaw16.NofitForbidden", spec := "nofitForbidden", unfollowed := true, recurses := true, apart := false, narrowed := true }
def NofitForbiddenUptoSaid : Prop := nofitForbiddenUptoRow.holds Try.pinned (OpenSpec.upto nofitForbiddenSpec)

/-- 'fretsawlaw16.NofitExchange', WHERE WHAT IT READS IS OF BULK AT MOST 1048576: true; the input reads as it did. -/
def nofitExchangeUptoRow : OpenClaim := { program := "ytbienlhofkfdpaa", sum := "265e9098775fb56473690ef517d040788939d440e985ea9a91294ebacabf8d5d", func := "fretsaw/fretsawlaw16.NofitExchange", spec := "nofitExchange", unfollowed := true, recurses := true, apart := false, narrowed := true }
def NofitExchangeUptoSaid : Prop := nofitExchangeUptoRow.holds Try.pinned (OpenSpec.upto nofitExchangeSpec)

end Rows
end Go.Proofs.Ytbienlhofkfdpaa
