/- What the arguments of layer 52's statements read as: costs. -/
import Derived.Test.YtbceogoeoojdbaaFrameCal
import Derived.Test.YtbceogoeoojdbaaSch28
namespace Go.Proofs.Ytbceogoeoojdbaa
open Go.ChangeShapes Go.WideShapes Go.ChangeAt Go.RowKit Go.Joins
set_option linter.unusedVariables false
section
variable {H : Type} {enc : TypeId × Value → H} {w : World} {base b0 : Nat} {held : Bool} {spare : Nat → Bool} {r : Reach} {v : Value} {d : DataW H} {p : List MemPlace}
set_option maxRecDepth 100000 in
theorem open_cost (hv : Value.okWide Try.prog w r b0 74 v) (h : DataW.Trod enc Try.prog w base spare held 74 v d p) : ∃ x y z u : Int, v = .agg #[.int .i64 x, .int .i64 y, .int .i64 z, .int .i64 u] := by
  obtain ⟨c0, c1, c2, c3, y0, y1, y2, y3, k, rfl, rfl, -, h0, h1, h2, h3⟩ := open_agg4 Try.underlying74 (by kernel_rfl) (by kernel_rfl) hv h
  obtain ⟨x, e0, -, w0⟩ := DataW.trod_int Try.underlying3 h0
  obtain ⟨y, e1, -, w1⟩ := DataW.trod_int Try.underlying3 h1
  obtain ⟨z, e2, -, w2⟩ := DataW.trod_int Try.underlying3 h2
  obtain ⟨u, e3, -, w3⟩ := DataW.trod_int Try.underlying3 h3
  simp at e0 e1 e2 e3
  subst e0 e1 e2 e3
  exact ⟨x, y, z, u, rfl⟩
end
end Go.Proofs.Ytbceogoeoojdbaa
