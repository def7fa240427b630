/- Opening lists of rings, rings and small arrays that came in. -/
import Derived.Test.YticmfmcflikneaaOpenV
import Derived.Test.YticmfmcflikneaaOff3
namespace Go.Proofs.Yticmfmcflikneaa
open Go.ChangeShapes Go.WideShapes Go.ChangeAt Go.RowKit
set_option maxRecDepth 100000
set_option linter.unusedVariables false
section
variable {H : Type} {enc : TypeId × Value → H} {w : World} {base : Nat} {spare : Nat → Bool} {held : Bool} {r : Reach} {b0 : Nat} {v : Value} {d : DataW H} {p : List MemPlace}
theorem cellsRing : Try.prog.cellsOf 25 = 1 := by kernel_rfl
theorem bytesRing : Try.prog.bytesOf 25 = 24 := by kernel_rfl
theorem trod_ring {n : Nat} {cs : List Value} {y : DataW H × List MemPlace} (h : DataW.trod enc Try.prog w base spare held n 25 cs = some y) (hw : ∀ q ∈ y.1.weights Try.prog 25, q ≤ reachBytes) : ∃ x : RgR, cs = encG x ∧ (IsVecs w x.A x.c x.xs ∧ x.xs.length < 4611686018427387904) := by
  obtain ⟨v, rfl⟩ : ∃ v, cs = [v] := by
    rcases DataW.trod_slice Try.underlying25 h with ⟨rfl, -⟩ | ⟨a, len, cap, elems, rest, n, -, rfl, -⟩ <;> exact ⟨_, rfl⟩
  obtain ⟨A, n, c, rfl, -, l, rfl, hl, hlen⟩ := open_vecsB Try.underlying25 h hw
  exact ⟨⟨A, c, l⟩, rfl, hl, hlen⟩
theorem open_rings (hv : Value.okWide Try.prog w r b0 52 v) (h : DataW.Trod enc Try.prog w base spare held 52 v d p) (hw : ∀ q ∈ d.weights Try.prog 52, q ≤ reachBytes) :
    ∃ A n c, v = .slice A n c ∧ ∃ X : List RgR, n = X.length ∧ IsRings w A c X := by
  obtain ⟨a0, len0, cap0, rfl⟩ := okWide_slice Try.underlying52 hv
  obtain ⟨fuel, hf⟩ := h
  obtain ⟨A, n, c, e, -, l, rfl, hl, hlen, -, hg⟩ := open_row_gen (en := encG) (k := 1) (fun _ => rfl) (by omega) Try.underlying52 cellsRing (by rw [bytesRing]; decide) (fun n cs y h hw => trod_ring h hw) (show DataW.trod enc Try.prog w base spare held fuel 52 [Value.slice a0 len0 cap0] = some (d, p) from hf) hw
  exact ⟨A, _, c, e, l, rfl, hl, hg, hlen⟩
theorem open_ringL (hv : Value.okWide Try.prog w r b0 25 v) (h : DataW.Trod enc Try.prog w base spare held 25 v d p) (hw : ∀ q ∈ d.weights Try.prog 25, q ≤ reachBytes) :
    ∃ A n c, v = .slice A n c ∧ n ≤ c ∧ ∃ l : List (Int × Int), n = l.length ∧ IsVecs w A c l ∧ l.length < 4611686018427387904 := by
  obtain ⟨a0, len0, cap0, rfl⟩ := okWide_slice Try.underlying25 hv
  obtain ⟨fuel, hf⟩ := h
  exact open_vecsB Try.underlying25 (show DataW.trod enc Try.prog w base spare held fuel 25 [Value.slice a0 len0 cap0] = some (d, p) from hf) hw
theorem okWide_arr {m : Nat} {t e : TypeId} (ht : Try.prog.underlying t = some (.array m e)) (h : Value.okWide Try.prog w r b0 t v) : ∃ cs, v = .agg cs ∧ cs.size = Try.prog.cellsOf t := by
  simp only [Value.okWide, ht] at h
  obtain ⟨cs, h1, h2, _⟩ := h
  exact ⟨cs, h1, h2⟩
theorem cellsU8 : Try.prog.cellsOf 5 = 1 := by kernel_rfl
theorem open_u82 (hv : Value.okWide Try.prog w r b0 60 v) (h : DataW.Trod enc Try.prog w base spare held 60 v d p) : ∃ a b : Int, v = .agg #[.int .u8 a, .int .u8 b] ∧ (0 ≤ a ∧ a ≤ 255) ∧ (0 ≤ b ∧ b ≤ 255) := by
  obtain ⟨cs, rfl, hsz⟩ := okWide_arr Try.underlying60 hv
  obtain ⟨c0, c1, rfl⟩ := Go.Joins.array2 (hsz.trans (by kernel_rfl))
  obtain ⟨fuel, hf⟩ := h
  obtain ⟨xs, m, -, -, hl, lx, hf⟩ := DataW.trod_array Try.underlying60 hf
  have h0 := hf 0 (by omega)
  have h1 := hf 1 (by omega)
  rw [cellsU8] at h0 h1
  have h0' : DataW.trod enc Try.prog w base spare held m 5 [c0] = xs[0]? := by simpa [Value.cells] using h0
  have h1' : DataW.trod enc Try.prog w base spare held m 5 [c1] = xs[1]? := by simpa [Value.cells] using h1
  rw [List.getElem?_eq_getElem (by omega)] at h0' h1'
  obtain ⟨a, e0, -, wa⟩ := DataW.trod_int Try.underlying5 h0'
  obtain ⟨b, e1, -, wb⟩ := DataW.trod_int Try.underlying5 h1'
  simp at e0 e1
  subst e0 e1
  exact ⟨a, b, rfl, bounds_u8 wa, bounds_u8 wb⟩
theorem cellsI16 : Try.prog.cellsOf 62 = 1 := by kernel_rfl
theorem open_i164 (hv : Value.okWide Try.prog w r b0 63 v) (h : DataW.Trod enc Try.prog w base spare held 63 v d p) : ∃ a b c e : Int, v = .agg #[.int .i16 a, .int .i16 b, .int .i16 c, .int .i16 e] ∧ (-32768 ≤ a ∧ a ≤ 32767) ∧ (-32768 ≤ b ∧ b ≤ 32767) ∧ (-32768 ≤ c ∧ c ≤ 32767) ∧ (-32768 ≤ e ∧ e ≤ 32767) := by
  obtain ⟨cs, rfl, hsz⟩ := okWide_arr Try.underlying63 hv
  obtain ⟨c0, c1, c2, c3, rfl⟩ := Go.Joins.array4 (hsz.trans (by kernel_rfl))
  obtain ⟨fuel, hf⟩ := h
  obtain ⟨xs, m, -, -, hl, lx, hf⟩ := DataW.trod_array Try.underlying63 hf
  have h0 := hf 0 (by omega)
  have h1 := hf 1 (by omega)
  have h2 := hf 2 (by omega)
  have h3 := hf 3 (by omega)
  rw [cellsI16] at h0 h1 h2 h3
  have h0' : DataW.trod enc Try.prog w base spare held m 62 [c0] = xs[0]? := by simpa [Value.cells] using h0
  have h1' : DataW.trod enc Try.prog w base spare held m 62 [c1] = xs[1]? := by simpa [Value.cells] using h1
  have h2' : DataW.trod enc Try.prog w base spare held m 62 [c2] = xs[2]? := by simpa [Value.cells] using h2
  have h3' : DataW.trod enc Try.prog w base spare held m 62 [c3] = xs[3]? := by simpa [Value.cells] using h3
  rw [List.getElem?_eq_getElem (by omega)] at h0' h1' h2' h3'
  obtain ⟨a, e0, -, wa⟩ := DataW.trod_int Try.underlying62 h0'
  obtain ⟨b, e1, -, wb⟩ := DataW.trod_int Try.underlying62 h1'
  obtain ⟨c, e2, -, wc⟩ := DataW.trod_int Try.underlying62 h2'
  obtain ⟨e, e3, -, we⟩ := DataW.trod_int Try.underlying62 h3'
  simp at e0 e1 e2 e3
  subst e0 e1 e2 e3
  exact ⟨a, b, c, e, rfl, bounds_i16 wa, bounds_i16 wb, bounds_i16 wc, bounds_i16 we⟩
end
end Go.Proofs.Yticmfmcflikneaa
