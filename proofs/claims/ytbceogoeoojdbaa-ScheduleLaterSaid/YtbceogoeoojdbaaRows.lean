/-
  No cell of these rows narrows 'for every input' (looked for: loops, veiled, ifaces, maps, wideKeys, modest, calm, conditions, laid).
  DERIVED. THE GIVEN ROWS OF THIS SEAT. 12 by the template 'for every input the law returns true; each argument reads behind the call as it read before'; 0 by the template 'total and deterministic' (their statements: YtbceogoeoojdbaaTotals.lean).
  GIVEN WITH THE SEED: the statements are not yours to turn. If you find one false, say at which input.
  Laid BY PROGRAM, IN A SANDBOX (cutbox-rows.mjs): the forced cells as the released guide's own fill.sh prints them over the translation 97c41c824dd4c137… (all of the seat's roots in one cut). By AI agents, Wed Nov 11 2026. No macro, syntax, notation, axiom, sorry.
-/
import Derived.Test.YtbceogoeoojdbaaChecked
import GoSem.Claim
import GoSem.ClaimJoined
import GoSem.ClaimMapViews
import Derived.JoinedTies
import Derived.KernelRfl
namespace Go.Proofs.Ytbceogoeoojdbaa
/- THE CELL 'sum', in the pinned program and in every row, IS THE sha256 OF THE DUMP (.gsa) THAT YtbceogoeoojdbaaProg.lean LOADS. Nothing in Lean hashes anything: it is a label: what it is worth is what the hold of that sum in a sandbox is worth. -/
noncomputable def Try.pinned : Pinned := { name := "ytbceogoeoojdbaa", sum := "97c41c824dd4c137e9bf78f600dc3e0f748a07d69c0c602e1079495bc5299ace", checked := Try.checked }
namespace Rows
def none {H : Type} : Left H := { results := [], args := [] }

/-- 'fretsawlaw52.ScheduleParts': WHATEVER THE INPUT: true; the input reads as it did. -/
def schedulePartsSpec : ChangeSpec := { name := "scheduleParts", fn := fun _ => fun
  | [d1, d2, d3] => { results := [.lit (.bool true)], args := [d1, d2, d3] }
  | _ => none }
def schedulePartsRow : OpenClaim := { program := "ytbceogoeoojdbaa", sum := "97c41c824dd4c137e9bf78f600dc3e0f748a07d69c0c602e1079495bc5299ace", func := "fretsaw/fretsawlaw52.ScheduleParts", spec := "scheduleParts", unfollowed := true, recurses := true, apart := false }
def SchedulePartsSaid : Prop := schedulePartsRow.holds Try.pinned (OpenSpec.ofChange schedulePartsSpec)

/-- ITS FALSE NEIGHBOUR: 'it returns false'. Refute it at one input. -/
def schedulePartsWrong : ChangeSpec := { name := "scheduleParts", fn := fun _ => fun
  | [d1, d2, d3] => { results := [.lit (.bool false)], args := [d1, d2, d3] }
  | _ => none }
def SchedulePartsWrongFalsely : Prop := schedulePartsRow.holds Try.pinned (OpenSpec.ofChange schedulePartsWrong)

/-- 'fretsawlaw52.ScheduleLater': WHATEVER THE INPUT: true; the input reads as it did. -/
def scheduleLaterSpec : ChangeSpec := { name := "scheduleLater", fn := fun _ => fun
  | [d1, d2, d3] => { results := [.lit (.bool true)], args := [d1, d2, d3] }
  | _ => none }
def scheduleLaterRow : OpenClaim := { program := "ytbceogoeoojdbaa", sum := "97c41c824dd4c137e9bf78f600dc3e0f748a07d69c0c602e1079495bc5299ace", func := "fretsaw/fretsawlaw52.ScheduleLater", spec := "scheduleLater", unfollowed := true, recurses := true, apart := false }
def ScheduleLaterSaid : Prop := scheduleLaterRow.holds Try.pinned (OpenSpec.ofChange scheduleLaterSpec)

/-- ITS FALSE NEIGHBOUR: 'it returns false'. Refute it at one input. -/
def scheduleLaterWrong : ChangeSpec := { name := "scheduleLater", fn := fun _ => fun
  | [d1, d2, d3] => { results := [.lit (.bool false)], args := [d1, d2, d3] }
  | _ => none }
def ScheduleLaterWrongFalsely : Prop := scheduleLaterRow.holds Try.pinned (OpenSpec.ofChange scheduleLaterWrong)

/-- 'fretsawlaw52.ScheduleDispatch': WHATEVER THE INPUT: true; the input reads as it did. -/
def scheduleDispatchSpec : ChangeSpec := { name := "scheduleDispatch", fn := fun _ => fun
  | [d1, d2, d3] => { results := [.lit (.bool true)], args := [d1, d2, d3] }
  | _ => none }
def scheduleDispatchRow : OpenClaim := { program := "ytbceogoeoojdbaa", sum := "97c41c824dd4c137e9bf78f600dc3e0f748a07d69c0c602e1079495bc5299ace", func := "fretsaw/fretsawlaw52.ScheduleDispatch", spec := "scheduleDispatch", unfollowed := true, recurses := true, apart := false }
def ScheduleDispatchSaid : Prop := scheduleDispatchRow.holds Try.pinned (OpenSpec.ofChange scheduleDispatchSpec)

/-- ITS FALSE NEIGHBOUR: 'it returns false'. Refute it at one input. -/
def scheduleDispatchWrong : ChangeSpec := { name := "scheduleDispatch", fn := fun _ => fun
  | [d1, d2, d3] => { results := [.lit (.bool false)], args := [d1, d2, d3] }
  | _ => none }
def ScheduleDispatchWrongFalsely : Prop := scheduleDispatchRow.holds Try.pinned (OpenSpec.ofChange scheduleDispatchWrong)

/-- 'fretsawlaw52.ScheduleLess': WHATEVER THE INPUT: true; the input reads as it did. -/
def scheduleLessSpec : ChangeSpec := { name := "scheduleLess", fn := fun _ => fun
  | [d1, d2, d3] => { results := [.lit (.bool true)], args := [d1, d2, d3] }
  | _ => none }
def scheduleLessRow : OpenClaim := { program := "ytbceogoeoojdbaa", sum := "97c41c824dd4c137e9bf78f600dc3e0f748a07d69c0c602e1079495bc5299ace", func := "fretsaw/fretsawlaw52.ScheduleLess", spec := "scheduleLess", unfollowed := true, recurses := true, apart := false }
def ScheduleLessSaid : Prop := scheduleLessRow.holds Try.pinned (OpenSpec.ofChange scheduleLessSpec)

/-- ITS FALSE NEIGHBOUR: 'it returns false'. Refute it at one input. -/
def scheduleLessWrong : ChangeSpec := { name := "scheduleLess", fn := fun _ => fun
  | [d1, d2, d3] => { results := [.lit (.bool false)], args := [d1, d2, d3] }
  | _ => none }
def ScheduleLessWrongFalsely : Prop := scheduleLessRow.holds Try.pinned (OpenSpec.ofChange scheduleLessWrong)

/-- 'fretsawlaw51.CalendarClose': WHATEVER THE INPUT: true; the input reads as it did. -/
def calendarCloseSpec : ChangeSpec := { name := "calendarClose", fn := fun _ => fun
  | [d1, d2] => { results := [.lit (.bool true)], args := [d1, d2] }
  | _ => none }
def calendarCloseRow : OpenClaim := { program := "ytbceogoeoojdbaa", sum := "97c41c824dd4c137e9bf78f600dc3e0f748a07d69c0c602e1079495bc5299ace", func := "fretsaw/fretsawlaw51.CalendarClose", spec := "calendarClose", unfollowed := true, recurses := true, apart := false }
def CalendarCloseSaid : Prop := calendarCloseRow.holds Try.pinned (OpenSpec.ofChange calendarCloseSpec)

/-- ITS FALSE NEIGHBOUR: 'it returns false'. Refute it at one input. -/
def calendarCloseWrong : ChangeSpec := { name := "calendarClose", fn := fun _ => fun
  | [d1, d2] => { results := [.lit (.bool false)], args := [d1, d2] }
  | _ => none }
def CalendarCloseWrongFalsely : Prop := calendarCloseRow.holds Try.pinned (OpenSpec.ofChange calendarCloseWrong)

/-- 'fretsawlaw51.CalendarCloses': WHATEVER THE INPUT: true; the input reads as it did. -/
def calendarClosesSpec : ChangeSpec := { name := "calendarCloses", fn := fun _ => fun
  | [d1, d2, d3] => { results := [.lit (.bool true)], args := [d1, d2, d3] }
  | _ => none }
def calendarClosesRow : OpenClaim := { program := "ytbceogoeoojdbaa", sum := "97c41c824dd4c137e9bf78f600dc3e0f748a07d69c0c602e1079495bc5299ace", func := "fretsaw/fretsawlaw51.CalendarCloses", spec := "calendarCloses", unfollowed := true, recurses := true, apart := false }
def CalendarClosesSaid : Prop := calendarClosesRow.holds Try.pinned (OpenSpec.ofChange calendarClosesSpec)

/-- ITS FALSE NEIGHBOUR: 'it returns false'. Refute it at one input. -/
def calendarClosesWrong : ChangeSpec := { name := "calendarCloses", fn := fun _ => fun
  | [d1, d2, d3] => { results := [.lit (.bool false)], args := [d1, d2, d3] }
  | _ => none }
def CalendarClosesWrongFalsely : Prop := calendarClosesRow.holds Try.pinned (OpenSpec.ofChange calendarClosesWrong)

/-- 'fretsawlaw51.CalendarGrows': WHATEVER THE INPUT: true; the input reads as it did. -/
def calendarGrowsSpec : ChangeSpec := { name := "calendarGrows", fn := fun _ => fun
  | [d1, d2, d3] => { results := [.lit (.bool true)], args := [d1, d2, d3] }
  | _ => none }
def calendarGrowsRow : OpenClaim := { program := "ytbceogoeoojdbaa", sum := "97c41c824dd4c137e9bf78f600dc3e0f748a07d69c0c602e1079495bc5299ace", func := "fretsaw/fretsawlaw51.CalendarGrows", spec := "calendarGrows", unfollowed := true, recurses := true, apart := false }
def CalendarGrowsSaid : Prop := calendarGrowsRow.holds Try.pinned (OpenSpec.ofChange calendarGrowsSpec)

/-- ITS FALSE NEIGHBOUR: 'it returns false'. Refute it at one input. -/
def calendarGrowsWrong : ChangeSpec := { name := "calendarGrows", fn := fun _ => fun
  | [d1, d2, d3] => { results := [.lit (.bool false)], args := [d1, d2, d3] }
  | _ => none }
def CalendarGrowsWrongFalsely : Prop := calendarGrowsRow.holds Try.pinned (OpenSpec.ofChange calendarGrowsWrong)

/-- 'fretsawlaw51.CalendarFinish': WHATEVER THE INPUT: true; the input reads as it did. -/
def calendarFinishSpec : ChangeSpec := { name := "calendarFinish", fn := fun _ => fun
  | [d1, d2] => { results := [.lit (.bool true)], args := [d1, d2] }
  | _ => none }
def calendarFinishRow : OpenClaim := { program := "ytbceogoeoojdbaa", sum := "97c41c824dd4c137e9bf78f600dc3e0f748a07d69c0c602e1079495bc5299ace", func := "fretsaw/fretsawlaw51.CalendarFinish", spec := "calendarFinish", unfollowed := true, recurses := true, apart := false }
def CalendarFinishSaid : Prop := calendarFinishRow.holds Try.pinned (OpenSpec.ofChange calendarFinishSpec)

/-- ITS FALSE NEIGHBOUR: 'it returns false'. Refute it at one input. -/
def calendarFinishWrong : ChangeSpec := { name := "calendarFinish", fn := fun _ => fun
  | [d1, d2] => { results := [.lit (.bool false)], args := [d1, d2] }
  | _ => none }
def CalendarFinishWrongFalsely : Prop := calendarFinishRow.holds Try.pinned (OpenSpec.ofChange calendarFinishWrong)

/-- 'fretsawlaw51.CalendarEnds': WHATEVER THE INPUT: true; the input reads as it did. -/
def calendarEndsSpec : ChangeSpec := { name := "calendarEnds", fn := fun _ => fun
  | [d1, d2] => { results := [.lit (.bool true)], args := [d1, d2] }
  | _ => none }
def calendarEndsRow : OpenClaim := { program := "ytbceogoeoojdbaa", sum := "97c41c824dd4c137e9bf78f600dc3e0f748a07d69c0c602e1079495bc5299ace", func := "fretsaw/fretsawlaw51.CalendarEnds", spec := "calendarEnds", unfollowed := true, recurses := true, apart := false }
def CalendarEndsSaid : Prop := calendarEndsRow.holds Try.pinned (OpenSpec.ofChange calendarEndsSpec)

/-- ITS FALSE NEIGHBOUR: 'it returns false'. Refute it at one input. -/
def calendarEndsWrong : ChangeSpec := { name := "calendarEnds", fn := fun _ => fun
  | [d1, d2] => { results := [.lit (.bool false)], args := [d1, d2] }
  | _ => none }
def CalendarEndsWrongFalsely : Prop := calendarEndsRow.holds Try.pinned (OpenSpec.ofChange calendarEndsWrong)

/-- 'fretsawlaw52.ScheduleBest': WHATEVER THE INPUT: true; the input reads as it did. -/
def scheduleBestSpec : ChangeSpec := { name := "scheduleBest", fn := fun _ => fun
  | [d1, d2] => { results := [.lit (.bool true)], args := [d1, d2] }
  | _ => none }
def scheduleBestRow : OpenClaim := { program := "ytbceogoeoojdbaa", sum := "97c41c824dd4c137e9bf78f600dc3e0f748a07d69c0c602e1079495bc5299ace", func := "fretsaw/fretsawlaw52.ScheduleBest", spec := "scheduleBest", unfollowed := true, recurses := true, apart := false }
def ScheduleBestSaid : Prop := scheduleBestRow.holds Try.pinned (OpenSpec.ofChange scheduleBestSpec)

/-- ITS FALSE NEIGHBOUR: 'it returns false'. Refute it at one input. -/
def scheduleBestWrong : ChangeSpec := { name := "scheduleBest", fn := fun _ => fun
  | [d1, d2] => { results := [.lit (.bool false)], args := [d1, d2] }
  | _ => none }
def ScheduleBestWrongFalsely : Prop := scheduleBestRow.holds Try.pinned (OpenSpec.ofChange scheduleBestWrong)

/-- 'fretsawlaw51.CalendarTimes': WHATEVER THE INPUT: true; the input reads as it did. -/
def calendarTimesSpec : ChangeSpec := { name := "calendarTimes", fn := fun _ => fun
  | [d1, d2] => { results := [.lit (.bool true)], args := [d1, d2] }
  | _ => none }
def calendarTimesRow : OpenClaim := { program := "ytbceogoeoojdbaa", sum := "97c41c824dd4c137e9bf78f600dc3e0f748a07d69c0c602e1079495bc5299ace", func := "fretsaw/fretsawlaw51.CalendarTimes", spec := "calendarTimes", unfollowed := true, recurses := true, apart := false }
def CalendarTimesSaid : Prop := calendarTimesRow.holds Try.pinned (OpenSpec.ofChange calendarTimesSpec)

/-- ITS FALSE NEIGHBOUR: 'it returns false'. Refute it at one input. -/
def calendarTimesWrong : ChangeSpec := { name := "calendarTimes", fn := fun _ => fun
  | [d1, d2] => { results := [.lit (.bool false)], args := [d1, d2] }
  | _ => none }
def CalendarTimesWrongFalsely : Prop := calendarTimesRow.holds Try.pinned (OpenSpec.ofChange calendarTimesWrong)

/-- 'fretsawlaw51.CalendarWork': WHATEVER THE INPUT: true; the input reads as it did. -/
def calendarWorkSpec : ChangeSpec := { name := "calendarWork", fn := fun _ => fun
  | [d1, d2, d3] => { results := [.lit (.bool true)], args := [d1, d2, d3] }
  | _ => none }
def calendarWorkRow : OpenClaim := { program := "ytbceogoeoojdbaa", sum := "97c41c824dd4c137e9bf78f600dc3e0f748a07d69c0c602e1079495bc5299ace", func := "fretsaw/fretsawlaw51.CalendarWork", spec := "calendarWork", unfollowed := true, recurses := true, apart := false }
def CalendarWorkSaid : Prop := calendarWorkRow.holds Try.pinned (OpenSpec.ofChange calendarWorkSpec)

/-- ITS FALSE NEIGHBOUR: 'it returns false'. Refute it at one input. -/
def calendarWorkWrong : ChangeSpec := { name := "calendarWork", fn := fun _ => fun
  | [d1, d2, d3] => { results := [.lit (.bool false)], args := [d1, d2, d3] }
  | _ => none }
def CalendarWorkWrongFalsely : Prop := calendarWorkRow.holds Try.pinned (OpenSpec.ofChange calendarWorkWrong)

/- THE SECOND FORM. 'bulk': how many values and letters a reading holds, each counted each time it is reached (what is shared counts as often as it is met; a slice's spare places count too). A statement '..UptoSaid' is the law's where the arguments, and the package variables that the reading takes, are together of bulk at most 1048576: NARROWER than '..Said'. Prove '..Said' where nothing that the law and all that it calls make is longer than what came in: it says more and counts as full. Else prove '..UptoSaid'. A law counts once. -/
mutual
def uptoBulk {H : Type} : DataW H → Nat
  | .lit (.string bytes) => bytes.length + 1
  | .lit _ => 1
  | .nil => 1
  | .ptr d => uptoBulk d + 1
  | .slice elems spare => uptoBulkAll elems + uptoBulkAll spare + 1
  | .agg parts => uptoBulkAll parts + 1
  | .iface _ d => uptoBulk d + 1
  | .map entries => uptoBulkEntries entries + 1
  | .held _ => 1
def uptoBulkAll {H : Type} : List (DataW H) → Nat
  | [] => 0
  | d :: r => uptoBulk d + uptoBulkAll r
def uptoBulkEntries {H : Type} : List (Lit × DataW H) → Nat
  | [] => 0
  | x :: r => uptoBulkEntry x + uptoBulkEntries r
def uptoBulkEntry {H : Type} : Lit × DataW H → Nat
  | (.string bytes, d) => bytes.length + uptoBulk d + 1
  | (_, d) => uptoBulk d + 1
 end
def uptoSmall : (H : Type) → List (DataW H) → Bool := fun _ ds => decide (uptoBulkAll ds ≤ 1048576)
def OpenSpec.upto (s : _root_.Go.ChangeSpec) : _root_.Go.OpenSpec := { _root_.Go.OpenSpec.ofChange s with cond := some uptoSmall }

/-- 'fretsawlaw52.ScheduleParts', WHERE WHAT IT READS IS OF BULK AT MOST 1048576: true; the input reads as it did. -/
def schedulePartsUptoRow : OpenClaim := { program := "ytbceogoeoojdbaa", sum := "97c41c824dd4c137e9bf78f600dc3e0f748a07d69c0c602e1079495bc5299ace", func := "fretsaw/fretsawlaw52.ScheduleParts", spec := "scheduleParts", unfollowed := true, recurses := true, apart := false, narrowed := true }
def SchedulePartsUptoSaid : Prop := schedulePartsUptoRow.holds Try.pinned (OpenSpec.upto schedulePartsSpec)

/-- 'fretsawlaw52.ScheduleLater', WHERE WHAT IT READS IS OF BULK AT MOST 1048576: true; the input reads as it did. -/
def scheduleLaterUptoRow : OpenClaim := { program := "ytbceogoeoojdbaa", sum := "97c41c824dd4c137e9bf78f600dc3e0f748a07d69c0c602e1079495bc5299ace", func := "fretsaw/fretsawlaw52.ScheduleLater", spec := "scheduleLater", unfollowed := true, recurses := true, apart := false, narrowed := true }
def ScheduleLaterUptoSaid : Prop := scheduleLaterUptoRow.holds Try.pinned (OpenSpec.upto scheduleLaterSpec)

/-- 'fretsawlaw52.ScheduleDispatch', WHERE WHAT IT READS IS OF BULK AT MOST 1048576: true; the input reads as it did. -/
def scheduleDispatchUptoRow : OpenClaim := { program := "ytbceogoeoojdbaa", sum := "97c41c824dd4c137e9bf78f600dc3e0f748a07d69c0c602e1079495bc5299ace", func := "fretsaw/fretsawlaw52.ScheduleDispatch", spec := "scheduleDispatch", unfollowed := true, recurses := true, apart := false, narrowed := true }
def ScheduleDispatchUptoSaid : Prop := scheduleDispatchUptoRow.holds Try.pinned (OpenSpec.upto scheduleDispatchSpec)

/-- 'fretsawlaw52.ScheduleLess', WHERE WHAT IT READS IS OF BULK AT MOST 1048576: true; the input reads as it did. -/
def scheduleLessUptoRow : OpenClaim := { program := "ytbceogoeoojdbaa", sum := "97c41c824dd4c137e9bf78f600dc3e0f748a07d69c0c602e1079495bc5299ace", func := "fretsaw/fretsawlaw52.ScheduleLess", spec := "scheduleLess", unfollowed := true, recurses := true, apart := false, narrowed := true }
def ScheduleLessUptoSaid : Prop := scheduleLessUptoRow.holds Try.pinned (OpenSpec.upto scheduleLessSpec)

/-- 'fretsawlaw51.CalendarClose', WHERE WHAT IT READS IS OF BULK AT MOST 1048576: true; the input reads as it did. -/
def calendarCloseUptoRow : OpenClaim := { program := "ytbceogoeoojdbaa", sum := "97c41c824dd4c137e9bf78f600dc3e0f748a07d69c0c602e1079495bc5299ace", func := "fretsaw/fretsawlaw51.CalendarClose", spec := "calendarClose", unfollowed := true, recurses := true, apart := false, narrowed := true }
def CalendarCloseUptoSaid : Prop := calendarCloseUptoRow.holds Try.pinned (OpenSpec.upto calendarCloseSpec)

/-- 'fretsawlaw51.CalendarCloses', WHERE WHAT IT READS IS OF BULK AT MOST 1048576: true; the input reads as it did. -/
def calendarClosesUptoRow : OpenClaim := { program := "ytbceogoeoojdbaa", sum := "97c41c824dd4c137e9bf78f600dc3e0f748a07d69c0c602e1079495bc5299ace", func := "fretsaw/fretsawlaw51.CalendarCloses", spec := "calendarCloses", unfollowed := true, recurses := true, apart := false, narrowed := true }
def CalendarClosesUptoSaid : Prop := calendarClosesUptoRow.holds Try.pinned (OpenSpec.upto calendarClosesSpec)

/-- 'fretsawlaw51.CalendarGrows', WHERE WHAT IT READS IS OF BULK AT MOST 1048576: true; the input reads as it did. -/
def calendarGrowsUptoRow : OpenClaim := { program := "ytbceogoeoojdbaa", sum := "97c41c824dd4c137e9bf78f600dc3e0f748a07d69c0c602e1079495bc5299ace", func := "fretsaw/fretsawlaw51.CalendarGrows", spec := "calendarGrows", unfollowed := true, recurses := true, apart := false, narrowed := true }
def CalendarGrowsUptoSaid : Prop := calendarGrowsUptoRow.holds Try.pinned (OpenSpec.upto calendarGrowsSpec)

/-- 'fretsawlaw51.CalendarFinish', WHERE WHAT IT READS IS OF BULK AT MOST 1048576: true; the input reads as it did. -/
def calendarFinishUptoRow : OpenClaim := { program := "ytbceogoeoojdbaa", sum := "97c41c824dd4c137e9bf78f600dc3e0f748a07d69c0c602e1079495bc5299ace", func := "fretsaw/fretsawlaw51.CalendarFinish", spec := "calendarFinish", unfollowed := true, recurses := true, apart := false, narrowed := true }
def CalendarFinishUptoSaid : Prop := calendarFinishUptoRow.holds Try.pinned (OpenSpec.upto calendarFinishSpec)

/-- 'fretsawlaw51.CalendarEnds', WHERE WHAT IT READS IS OF BULK AT MOST 1048576: true; the input reads as it did. -/
def calendarEndsUptoRow : OpenClaim := { program := "ytbceogoeoojdbaa", sum := "97c41c824dd4c137e9bf78f600dc3e0f748a07d69c0c602e1079495bc5299ace", func := "fretsaw/fretsawlaw51.CalendarEnds", spec := "calendarEnds", unfollowed := true, recurses := true, apart := false, narrowed := true }
def CalendarEndsUptoSaid : Prop := calendarEndsUptoRow.holds Try.pinned (OpenSpec.upto calendarEndsSpec)

/-- 'fretsawlaw52.ScheduleBest', WHERE WHAT IT READS IS OF BULK AT MOST 1048576: true; the input reads as it did. -/
def scheduleBestUptoRow : OpenClaim := { program := "ytbceogoeoojdbaa", sum := "97c41c824dd4c137e9bf78f600dc3e0f748a07d69c0c602e1079495bc5299ace", func := "fretsaw/fretsawlaw52.ScheduleBest", spec := "scheduleBest", unfollowed := true, recurses := true, apart := false, narrowed := true }
def ScheduleBestUptoSaid : Prop := scheduleBestUptoRow.holds Try.pinned (OpenSpec.upto scheduleBestSpec)

/-- 'fretsawlaw51.CalendarTimes', WHERE WHAT IT READS IS OF BULK AT MOST 1048576: true; the input reads as it did. -/
def calendarTimesUptoRow : OpenClaim := { program := "ytbceogoeoojdbaa", sum := "97c41c824dd4c137e9bf78f600dc3e0f748a07d69c0c602e1079495bc5299ace", func := "fretsaw/fretsawlaw51.CalendarTimes", spec := "calendarTimes", unfollowed := true, recurses := true, apart := false, narrowed := true }
def CalendarTimesUptoSaid : Prop := calendarTimesUptoRow.holds Try.pinned (OpenSpec.upto calendarTimesSpec)

/-- 'fretsawlaw51.CalendarWork', WHERE WHAT IT READS IS OF BULK AT MOST 1048576: true; the input reads as it did. -/
def calendarWorkUptoRow : OpenClaim := { program := "ytbceogoeoojdbaa", sum := "97c41c824dd4c137e9bf78f600dc3e0f748a07d69c0c602e1079495bc5299ace", func := "fretsaw/fretsawlaw51.CalendarWork", spec := "calendarWork", unfollowed := true, recurses := true, apart := false, narrowed := true }
def CalendarWorkUptoSaid : Prop := calendarWorkUptoRow.holds Try.pinned (OpenSpec.upto calendarWorkSpec)

end Rows
end Go.Proofs.Ytbceogoeoojdbaa
