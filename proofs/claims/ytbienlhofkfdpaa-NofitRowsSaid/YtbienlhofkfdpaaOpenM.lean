/- Opening rings that came in. -/
import Derived.Test.YtbienlhofkfdpaaOpenV
namespace Go.Proofs.Ytbienlhofkfdpaa
open Go.ChangeShapes Go.WideShapes Go.ChangeAt Go.RowKit
set_option maxRecDepth 100000
set_option linter.unusedVariables false
section
variable {H : Type} {enc : TypeId × Value → H} {w : World} {base : Nat} {spare : Nat → Bool} {held : Bool} {r : Reach} {b0 : Nat} {v : Value} {d : DataW H} {p : List MemPlace}
theorem open_ringL (hv : Value.okWide Try.prog w r b0 23 v) (h : DataW.Trod enc Try.prog w base spare held 23 v d p) (hw : ∀ q ∈ d.weights Try.prog 23, q ≤ reachBytes) :
    ∃ A n c, v = .slice A n c ∧ n ≤ c ∧ ∃ l : List (Int × Int), n = l.length ∧ IsVecs w A c l ∧ l.length < 4611686018427387904 := by
  obtain ⟨a0, len0, cap0, rfl⟩ := okWide_slice Try.underlying23 hv
  obtain ⟨fuel, hf⟩ := h
  exact open_vecsB Try.underlying23 (show DataW.trod enc Try.prog w base spare held fuel 23 [Value.slice a0 len0 cap0] = some (d, p) from hf) hw
theorem open_vec2i (hv : Value.okWide Try.prog w r b0 42 v) : ∃ a b c e, v = .agg #[.int .i64 a, .int .i64 b, .int .i64 c, .int .i64 e] := by
  obtain ⟨l, hl, rfl⟩ := agg_ints (ts := [3, 3, 3, 3]) (n := 4) (.inr ⟨_, _, Try.underlying42⟩) (by kernel_rfl) (by simp) (by kernel_rfl) hv
  match l, hl with
  | [a, b, c, e], _ => exact ⟨a, b, c, e, rfl⟩
end
end Go.Proofs.Ytbienlhofkfdpaa
