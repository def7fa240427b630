/- Opening lists of rings that came in. -/
import Derived.Test.YtpbgimdbhgahkaaGreatOpenM
import Derived.Test.YtpbgimdbhgahkaaGreatRings
namespace Go.Proofs.YtpbgimdbhgahkaaGreat
open Go.ChangeShapes Go.WideShapes Go.ChangeAt Go.RowKit
set_option maxRecDepth 100000
set_option linter.unusedVariables false
section
variable {H : Type} {enc : TypeId × Value → H} {w : World} {base : Nat} {spare : Nat → Bool} {held : Bool} {r : Reach} {b0 : Nat} {v : Value} {d : DataW H} {p : List MemPlace}
theorem cellsRing : Tryz.prog.cellsOf 41 = 1 := by kernel_rfl
theorem bytesRing : Tryz.prog.bytesOf 41 = 24 := by kernel_rfl
theorem trod_ring {n : Nat} {cs : List Value} {y : DataW H × List MemPlace} (h : DataW.trod enc Tryz.prog w base spare held n 41 cs = some y) (hw : ∀ q ∈ y.1.weights Tryz.prog 41, q ≤ reachBytes) : ∃ x : RgR, cs = encG x ∧ IsRing w x := by
  obtain ⟨v, rfl⟩ : ∃ v, cs = [v] := by
    rcases DataW.trod_slice Tryz.underlying41 h with ⟨rfl, -⟩ | ⟨a, len, cap, elems, rest, n, -, rfl, -⟩ <;> exact ⟨_, rfl⟩
  obtain ⟨A, n, c, rfl, hc, l, rfl, hl, hlen⟩ := open_vecsB Tryz.underlying41 h hw
  exact ⟨⟨A, c, l⟩, rfl, hl, hlen, hc⟩
theorem open_rings_of {t : TypeId} (ht : Tryz.prog.underlying t = some (.slice 41)) (hv : Value.okWide Tryz.prog w r b0 t v) (h : DataW.Trod enc Tryz.prog w base spare held t v d p) (hw : ∀ q ∈ d.weights Tryz.prog t, q ≤ reachBytes) :
    ∃ A n c, v = .slice A n c ∧ n ≤ c ∧ ∃ X : List RgR, n = X.length ∧ IsRings w A c X := by
  obtain ⟨a0, len0, cap0, rfl⟩ := okWide_slice ht hv
  obtain ⟨fuel, hf⟩ := h
  obtain ⟨A, n, c, e, hc, l, rfl, hl, hlen, -, hg⟩ := open_row_gen (en := encG) (k := 1) (fun _ => rfl) (by omega) ht cellsRing (by rw [bytesRing]; decide) (fun n cs y h hw => trod_ring h hw) (show DataW.trod enc Tryz.prog w base spare held fuel t [Value.slice a0 len0 cap0] = some (d, p) from hf) hw
  exact ⟨A, _, c, e, hc, l, rfl, hl, hg, hlen⟩
theorem open_rings (hv : Value.okWide Tryz.prog w r b0 22 v) (h : DataW.Trod enc Tryz.prog w base spare held 22 v d p) (hw : ∀ q ∈ d.weights Tryz.prog 22, q ≤ reachBytes) :
    ∃ A n c, v = .slice A n c ∧ ∃ X : List RgR, n = X.length ∧ IsRings w A c X := by
  obtain ⟨A, n, c, e, -, X, hn, hX⟩ := open_rings_of Tryz.underlying22 hv h hw
  exact ⟨A, n, c, e, X, hn, hX⟩
end
end Go.Proofs.YtpbgimdbhgahkaaGreat
