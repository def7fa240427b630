/- Opening a slice of vectors that came in. -/
import Derived.Test.YtpbgimdbhgahkaaGreatFrame
import Derived.Test.YtpbgimdbhgahkaaGreatVecs
import Derived.Deep.Slices
import Derived.Test.YtpbgimdbhgahkaaGreatOpenG
namespace Go.Proofs.YtpbgimdbhgahkaaGreat
open Go.ChangeShapes Go.WideShapes Go.ChangeAt Go.RowKit
set_option maxRecDepth 100000
set_option linter.unusedVariables false
section
variable {H : Type} {enc : TypeId × Value → H} {w : World} {base : Nat} {spare : Nat → Bool} {held : Bool} {r : Reach} {b0 : Nat} {v : Value} {d : DataW H} {p : List MemPlace}
theorem open_vecs (hv : Value.okWide Tryz.prog w r b0 40 v) (h : DataW.Trod enc Tryz.prog w base spare held 40 v d p) : ∃ A n c, v = .slice A n c ∧ ∃ l, n = l.length ∧ IsVecs w A c l := by
  obtain ⟨a0, len0, cap0, rfl⟩ := okWide_slice Tryz.underlying40 hv
  obtain ⟨fuel, hf⟩ := h
  rcases Go.Deep.open_slice Tryz.underlying40 hf with ⟨hcs, hx⟩ | ⟨a, len, cap, m, n, D, Pl, hcs, hb, hl, hm, hmm, hx, hi⟩
  · simp [Value.cells] at hcs
    obtain ⟨rfl, rfl, rfl⟩ := hcs
    exact ⟨none, 0, 0, rfl, [], rfl, IsRow.nil _ _ _⟩
  · simp [Value.cells] at hcs
    obtain ⟨rfl, rfl, rfl⟩ := hcs
    refine ⟨some a, len0, cap0, rfl, ?_⟩
    have hlm : len0 ≤ m := by rw [hmm]; split <;> omega
    have each : ∀ i, ∃ q : Int × Int, i < len0 → w.cell? (a.add (i * 2)) = some (.int .i64 q.1) ∧ w.cell? (a.add (i * 2 + 1)) = some (.int .i64 q.2) := by
      intro i
      by_cases hlt : i < len0
      · obtain ⟨cs', hc, ht⟩ := hi i (by omega)
        rw [cellsVec] at hc
        obtain ⟨_, hcl, hat⟩ := World.cells?_some hc
        obtain ⟨y0, y1, n', -, -, h0, h1⟩ := trod_struct2 Tryz.underlying24 ht
        obtain ⟨x, e0, -, -⟩ := DataW.trod_int Tryz.underlying3 h0
        obtain ⟨y, e1, -, -⟩ := DataW.trod_int Tryz.underlying3 h1
        have c1 : Tryz.prog.cellsOf 3 = 1 := by kernel_rfl
        match cs', hcl with
        | [u0, u1], _ =>
          simp [c1] at e0 e1
          subst e0 e1
          have g0 := hat 0 (by omega)
          have g1 := hat 1 (by omega)
          refine ⟨(x, y), fun _ => ⟨?_, ?_⟩⟩
          · simpa [Addr.add] using g0
          · rw [Go.Deep.add_add] at g1; simpa using g1
      · exact ⟨(0, 0), fun h => absurd h hlt⟩
    obtain ⟨f, hf2⟩ : ∃ f : Nat → Int × Int, ∀ i, i < len0 → w.cell? (a.add (i * 2)) = some (.int .i64 (f i).1) ∧ w.cell? (a.add (i * 2 + 1)) = some (.int .i64 (f i).2) :=
      ⟨fun i => Classical.choose (each i), fun i => Classical.choose_spec (each i)⟩
    by_cases h0 : len0 = 0
    · subst h0
      exact ⟨[], rfl, (fun h => by cases h), .inl rfl⟩
    · obtain ⟨g, off, spot⟩ := a
      have hspot : spot = none := by simpa [Addr.add] using World.cell?_spot (hf2 0 (by omega)).1
      subst hspot
      refine ⟨(List.range len0).map f, by simp, (fun h => by cases h), .inr ⟨g, off, rfl, ⟨fun i hi2 j u hu => ?_, ?_⟩⟩⟩
      · have hlt : i < len0 := by simpa using hi2
        obtain ⟨k0, k1⟩ := hf2 i hlt
        rw [add_none] at k0 k1
        simp only [List.getElem_map, List.getElem_range] at hu
        match j, hu with
        | 0, hu => simp [encV] at hu; subst hu; exact k0
        | 1, hu => simp [encV] at hu; subst hu; rw [Nat.add_assoc]; exact k1
        | j + 2, hu => simp [encV] at hu
      · have k0 := (hf2 0 (by omega)).1
        rw [add_none] at k0
        exact ⟨⟨by rcases Nat.lt_or_ge g w.heap.size with h | h
                   · exact h
                   · simp [World.cell?, Array.getElem?_eq_none h] at k0⟩⟩
end
end Go.Proofs.YtpbgimdbhgahkaaGreat
/- Opening slices of vectors that came in, with the bound of their length. -/
namespace Go.Proofs.YtpbgimdbhgahkaaGreat
open Go.ChangeShapes Go.WideShapes Go.ChangeAt Go.RowKit
set_option maxRecDepth 100000
set_option linter.unusedVariables false
section
variable {H : Type} {enc : TypeId × Value → H} {w : World} {base : Nat} {spare : Nat → Bool} {held : Bool} {r : Reach} {b0 : Nat} {v : Value} {d : DataW H} {p : List MemPlace}
theorem bytesVec : Tryz.prog.bytesOf 24 = 16 := by kernel_rfl
theorem vec_el (n : Nat) (cs : List Value) (y : DataW H × List MemPlace) (h : DataW.trod enc Tryz.prog w base spare held n 24 cs = some y) : ∃ x : Int × Int, cs = encV x ∧ True := by
  obtain ⟨y0, y1, n', hx, hcl, h0, h1⟩ := trod_struct2 Tryz.underlying24 h
  obtain ⟨a, e0, -, -⟩ := DataW.trod_int Tryz.underlying3 h0
  obtain ⟨b, e1, -, -⟩ := DataW.trod_int Tryz.underlying3 h1
  have c1 : Tryz.prog.cellsOf 3 = 1 := by kernel_rfl
  have hl : cs.length = 2 := hcl.trans cellsVec
  match cs, hl with
  | [u0, u1], _ =>
    simp [c1] at e0 e1
    subst e0 e1
    exact ⟨(a, b), rfl, trivial⟩
theorem open_vecsB {fuel : Nat} {y : DataW H × List MemPlace} {t : TypeId} (ht : Tryz.prog.underlying t = some (.slice 24)) (h : DataW.trod enc Tryz.prog w base spare held fuel t [v] = some y) (hw : ∀ q ∈ y.1.weights Tryz.prog t, q ≤ reachBytes) :
    ∃ A n c, v = .slice A n c ∧ n ≤ c ∧ ∃ l : List (Int × Int), n = l.length ∧ IsVecs w A c l ∧ l.length < 4611686018427387904 := by
  obtain ⟨A, n, c, e, hnc, l, hl, hr, hll, -, -⟩ := open_row_gen (en := encV) (k := 2) (Good := fun _ => True) encV_len (by decide) ht cellsVec (by rw [bytesVec]; decide) (fun n cs y h _ => vec_el n cs y h) h hw
  exact ⟨A, n, c, e, hnc, l, hl, hr, hll⟩
theorem open_vecsL (hv : Value.okWide Tryz.prog w r b0 40 v) (h : DataW.Trod enc Tryz.prog w base spare held 40 v d p) (hw : ∀ q ∈ d.weights Tryz.prog 40, q ≤ reachBytes) :
    ∃ A n c, v = .slice A n c ∧ n ≤ c ∧ ∃ l : List (Int × Int), n = l.length ∧ IsVecs w A c l ∧ l.length < 4611686018427387904 := by
  obtain ⟨a0, len0, cap0, rfl⟩ := okWide_slice Tryz.underlying40 hv
  obtain ⟨fuel, hf⟩ := h
  exact open_vecsB Tryz.underlying40 (show DataW.trod enc Tryz.prog w base spare held fuel 40 [Value.slice a0 len0 cap0] = some (d, p) from hf) hw
end
end Go.Proofs.YtpbgimdbhgahkaaGreat
/- Opening rings that came in. -/
namespace Go.Proofs.YtpbgimdbhgahkaaGreat
open Go.ChangeShapes Go.WideShapes Go.ChangeAt Go.RowKit
set_option maxRecDepth 100000
set_option linter.unusedVariables false
section
variable {H : Type} {enc : TypeId × Value → H} {w : World} {base : Nat} {spare : Nat → Bool} {held : Bool} {r : Reach} {b0 : Nat} {v : Value} {d : DataW H} {p : List MemPlace}
theorem open_ringL (hv : Value.okWide Tryz.prog w r b0 41 v) (h : DataW.Trod enc Tryz.prog w base spare held 41 v d p) (hw : ∀ q ∈ d.weights Tryz.prog 41, q ≤ reachBytes) :
    ∃ A n c, v = .slice A n c ∧ n ≤ c ∧ ∃ l : List (Int × Int), n = l.length ∧ IsVecs w A c l ∧ l.length < 4611686018427387904 := by
  obtain ⟨a0, len0, cap0, rfl⟩ := okWide_slice Tryz.underlying41 hv
  obtain ⟨fuel, hf⟩ := h
  exact open_vecsB Tryz.underlying41 (show DataW.trod enc Tryz.prog w base spare held fuel 41 [Value.slice a0 len0 cap0] = some (d, p) from hf) hw
end
end Go.Proofs.YtpbgimdbhgahkaaGreat
