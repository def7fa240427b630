/- Opening slices of vectors that came in, with the bound of their length. -/
import Derived.Test.YtbienlhofkfdpaaOpen
import Derived.Test.YtbienlhofkfdpaaOpenG
namespace Go.Proofs.Ytbienlhofkfdpaa
open Go.ChangeShapes Go.WideShapes Go.ChangeAt Go.RowKit
set_option maxRecDepth 100000
set_option linter.unusedVariables false
section
variable {H : Type} {enc : TypeId × Value → H} {w : World} {base : Nat} {spare : Nat → Bool} {held : Bool} {r : Reach} {b0 : Nat} {v : Value} {d : DataW H} {p : List MemPlace}
theorem bytesVec : Try.prog.bytesOf 37 = 16 := by kernel_rfl
theorem vec_el (n : Nat) (cs : List Value) (y : DataW H × List MemPlace) (h : DataW.trod enc Try.prog w base spare held n 37 cs = some y) : ∃ x : Int × Int, cs = encV x ∧ True := by
  obtain ⟨y0, y1, n', hx, hcl, h0, h1⟩ := trod_struct2 Try.underlying37 h
  obtain ⟨a, e0, -, -⟩ := DataW.trod_int Try.underlying3 h0
  obtain ⟨b, e1, -, -⟩ := DataW.trod_int Try.underlying3 h1
  have c1 : Try.prog.cellsOf 3 = 1 := by kernel_rfl
  have hl : cs.length = 2 := hcl.trans cellsVec
  match cs, hl with
  | [u0, u1], _ =>
    simp [c1] at e0 e1
    subst e0 e1
    exact ⟨(a, b), rfl, trivial⟩
theorem open_vecsB {fuel : Nat} {y : DataW H × List MemPlace} {t : TypeId} (ht : Try.prog.underlying t = some (.slice 37)) (h : DataW.trod enc Try.prog w base spare held fuel t [v] = some y) (hw : ∀ q ∈ y.1.weights Try.prog t, q ≤ reachBytes) :
    ∃ A n c, v = .slice A n c ∧ n ≤ c ∧ ∃ l : List (Int × Int), n = l.length ∧ IsVecs w A c l ∧ l.length < 4611686018427387904 := by
  obtain ⟨A, n, c, e, hnc, l, hl, hr, hll, -, -⟩ := open_row_gen (en := encV) (k := 2) (Good := fun _ => True) encV_len (by decide) ht cellsVec (by rw [bytesVec]; decide) (fun n cs y h _ => vec_el n cs y h) h hw
  exact ⟨A, n, c, e, hnc, l, hl, hr, hll⟩
theorem open_vecsL (hv : Value.okWide Try.prog w r b0 22 v) (h : DataW.Trod enc Try.prog w base spare held 22 v d p) (hw : ∀ q ∈ d.weights Try.prog 22, q ≤ reachBytes) :
    ∃ A n c, v = .slice A n c ∧ n ≤ c ∧ ∃ l : List (Int × Int), n = l.length ∧ IsVecs w A c l ∧ l.length < 4611686018427387904 := by
  obtain ⟨a0, len0, cap0, rfl⟩ := okWide_slice Try.underlying22 hv
  obtain ⟨fuel, hf⟩ := h
  exact open_vecsB Try.underlying22 (show DataW.trod enc Try.prog w base spare held fuel 22 [Value.slice a0 len0 cap0] = some (d, p) from hf) hw
end
end Go.Proofs.Ytbienlhofkfdpaa
