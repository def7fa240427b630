/- Opening three rings that came in as an array. -/
import Derived.Test.YtbienlhofkfdpaaOpenR15
import Derived.Laws.IdiomArrays
import Derived.Lib.SmallJoins
namespace Go.Proofs.Ytbienlhofkfdpaa
open Go.ChangeShapes Go.WideShapes Go.ChangeAt Go.RowKit
set_option maxRecDepth 100000
set_option linter.unusedVariables false
section
variable {H : Type} {enc : TypeId × Value → H} {w : World} {base : Nat} {spare : Nat → Bool} {held : Bool} {r : Reach} {b0 : Nat} {v : Value} {d : DataW H} {p : List MemPlace}
theorem okWide_arr {m : Nat} {t e : TypeId} (ht : Try.prog.underlying t = some (.array m e)) (h : Value.okWide Try.prog w r b0 t v) : ∃ cs, v = .agg cs ∧ cs.size = Try.prog.cellsOf t := by
  simp only [Value.okWide, ht] at h
  obtain ⟨cs, h1, h2, _⟩ := h
  exact ⟨cs, h1, h2⟩
theorem open_ring3 (hv : Value.okWide Try.prog w r b0 45 v) (h : DataW.Trod enc Try.prog w base spare held 45 v d p) (hw : ∀ q ∈ d.weights Try.prog 45, q ≤ reachBytes) :
    ∃ X Y Z : RgR, v = .agg #[.slice X.A X.xs.length X.c, .slice Y.A Y.xs.length Y.c, .slice Z.A Z.xs.length Z.c] ∧ IsRing w X ∧ IsRing w Y ∧ IsRing w Z := by
  obtain ⟨cs, rfl, hsz⟩ := okWide_arr Try.underlying45 hv
  obtain ⟨c0, c1, c2, rfl⟩ := Go.Joins.array3 (hsz.trans (by kernel_rfl))
  obtain ⟨fuel, hf⟩ := h
  obtain ⟨y0, y1, y2, n, hx, h0, h1, h2⟩ := trod_array3 Try.underlying45 cellsRing hf
  have hd : d = .agg [y0.1, y1.1, y2.1] := congrArg Prod.fst hx
  rw [hd] at hw
  simp only [DataW.weights, Try.underlying45] at hw
  obtain ⟨X, eX, iX⟩ := trod_ring h0 (fun q hq => hw q (mem_weightsAll (by simp) q hq))
  obtain ⟨Y, eY, iY⟩ := trod_ring h1 (fun q hq => hw q (mem_weightsAll (by simp) q hq))
  obtain ⟨Z, eZ, iZ⟩ := trod_ring h2 (fun q hq => hw q (mem_weightsAll (by simp) q hq))
  simp [encG] at eX eY eZ
  subst eX eY eZ
  exact ⟨X, Y, Z, rfl, iX, iY, iZ⟩
end
end Go.Proofs.Ytbienlhofkfdpaa
