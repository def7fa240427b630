/- How arguments are opened: calendars by value, what is asked by value; slices of pairs. -/
import Derived.Test.YtdcncalcncomoaaRows
import Derived.Test.YtdcncalcncomoaaCal8
import Derived.OpenShut
import Derived.ChangeOld
import Derived.Lib.SmallJoins
import Derived.Deep.Slices
import Derived.Deep.Fields
import Derived.SizedLaws
namespace Go.Proofs.Ytdcncalcncomoaa
open Go.ChangeShapes Go.WideShapes Go.ChangeAt Go.RowKit Go.Joins
set_option linter.unusedVariables false

theorem own : ownKnob Try.prog.godebug = none := by kernel_rfl
theorem laidOut : laidOutB Try.prog = true := by kernel_rfl
theorem i64_wf {a : Int} (h : (Lit.int .i64 a).wf = true) : i64 a := bounds_i64 h

section
variable {H : Type} {enc : TypeId × Value → H} {w : World} {base : Nat} {spare : Nat → Bool} {held : Bool} {r : Reach} {b0 : Nat} {v : Value} {d : DataW H} {p : List MemPlace}
theorem cells1 : Try.prog.cellsOf 3 = 1 := by kernel_rfl
theorem cells2 : Try.prog.cellsOf 73 = 2 := by kernel_rfl
set_option maxRecDepth 100000 in
theorem trod_iv {n : Nat} {cs : List Value} {y : DataW H × List MemPlace} (h : DataW.trod enc Try.prog w base spare held n 73 cs = some y) : ∃ a b : Int, cs = [.int .i64 a, .int .i64 b] := by
  obtain ⟨xs, m, -, -, hl, lx, hf⟩ := DataW.trod_array Try.underlying73 h
  rw [cells2] at hl
  match cs, hl with
  | [u0, u1], _ =>
    have h0 := hf 0 (by omega)
    have h1 := hf 1 (by omega)
    rw [cells1] at h0 h1
    have h0' : DataW.trod enc Try.prog w base spare held m 3 [u0] = xs[0]? := by simpa using h0
    have h1' : DataW.trod enc Try.prog w base spare held m 3 [u1] = xs[1]? := by simpa using h1
    rw [List.getElem?_eq_getElem (by omega)] at h0' h1'
    obtain ⟨a, e0, -, -⟩ := DataW.trod_int Try.underlying3 h0'
    obtain ⟨b, e1, -, -⟩ := DataW.trod_int Try.underlying3 h1'
    simp at e0 e1
    exact ⟨a, b, by rw [e0, e1]⟩
theorem open_pairs {t e : TypeId} {fuel : Nat} {y : DataW H × List MemPlace} (ht : Try.prog.underlying t = some (.slice e)) (hc : Try.prog.cellsOf e = 2) (hby : Try.prog.bytesOf e = 16)
    (hel : ∀ (n : Nat) (cs : List Value) (y : DataW H × List MemPlace), DataW.trod enc Try.prog w base spare held n e cs = some y → ∃ a b : Int, cs = [.int .i64 a, .int .i64 b])
    (h : DataW.trod enc Try.prog w base spare held fuel t [v] = some y) (hw : ∀ k ∈ y.1.weights Try.prog t, k ≤ reachBytes) :
    ∃ A n c, v = .slice A n c ∧ ∃ l, n = l.length ∧ IsIvs w A c l ∧ l.length < 4611686018427387904 := by
  rcases Go.Deep.open_slice ht h with ⟨hcs, hx⟩ | ⟨a, len0, cap0, m, n, D, Pl, hcs, hb, hl, hm, hmm, hx, hi⟩
  · obtain rfl : v = .slice none 0 0 := by simpa using hcs
    exact ⟨none, 0, 0, rfl, [], rfl, IsRow.nil _ _ _, by decide⟩
  · obtain rfl : v = .slice (some a) len0 cap0 := by simpa using hcs
    subst hx
    have hlen : len0 < 4611686018427387904 := by
      have := hw _ (by simp only [DataW.weights, ht]; exact List.mem_cons_self)
      rw [hby] at this
      simp only [List.length_map, List.length_range] at this
      have hr : reachBytes < 2 ^ 47 := reachBytes_lt
      omega
    refine ⟨some a, len0, cap0, rfl, ?_⟩
    have hlm : len0 ≤ m := by rw [hmm]; split <;> omega
    have each : ∀ i, ∃ q : Int × Int, i < len0 → w.cell? (a.add (i * 2)) = some (.int .i64 q.1) ∧ w.cell? (a.add (i * 2 + 1)) = some (.int .i64 q.2) := by
      intro i
      by_cases hlt : i < len0
      · obtain ⟨cs', hc', ht'⟩ := hi i (by omega)
        rw [hc] at hc'
        obtain ⟨_, hcl, hat⟩ := World.cells?_some hc'
        obtain ⟨x, y, rfl⟩ := hel _ _ _ ht'
        have g0 := hat 0 (by omega)
        have g1 := hat 1 (by omega)
        refine ⟨(x, y), fun _ => ⟨?_, ?_⟩⟩
        · simpa [Addr.add] using g0
        · rw [Go.Deep.add_add] at g1; simpa using g1
      · exact ⟨(0, 0), fun h => absurd h hlt⟩
    obtain ⟨f, hf2⟩ : ∃ f : Nat → Int × Int, ∀ i, i < len0 → w.cell? (a.add (i * 2)) = some (.int .i64 (f i).1) ∧ w.cell? (a.add (i * 2 + 1)) = some (.int .i64 (f i).2) :=
      ⟨fun i => Classical.choose (each i), fun i => Classical.choose_spec (each i)⟩
    by_cases h0 : len0 = 0
    · subst h0
      exact ⟨[], rfl, ⟨(fun h => by cases h), .inl rfl⟩, by decide⟩
    · obtain ⟨g, off, spot⟩ := a
      have hspot : spot = none := by simpa [Addr.add] using World.cell?_spot (hf2 0 (by omega)).1
      subst hspot
      refine ⟨(List.range len0).map f, by simp, ⟨(fun h => by cases h), .inr ⟨g, off, rfl, ⟨fun i hi2 j u hu => ?_, ?_⟩⟩⟩, by simpa using hlen⟩
      · have hlt : i < len0 := by simpa using hi2
        obtain ⟨k0, k1⟩ := hf2 i hlt
        rw [add_none] at k0 k1
        simp only [List.getElem_map, List.getElem_range] at hu
        match j, hu with
        | 0, hu => simp [encV] at hu; subst hu; exact k0
        | 1, hu => simp [encV] at hu; subst hu; rw [Nat.add_assoc]; exact k1
        | j + 2, hu => simp [encV] at hu
      · have k0 := (hf2 0 (by omega)).1
        rw [add_none] at k0
        exact ⟨⟨by rcases Nat.lt_or_ge g w.heap.size with h | h
                   · exact h
                   · simp [World.cell?, Array.getElem?_eq_none h] at k0⟩⟩
set_option maxRecDepth 100000 in
theorem open_cal (hv : Value.okWide Try.prog w r b0 58 v) (h : DataW.Trod enc Try.prog w base spare held 58 v d p) (hw : ∀ k ∈ d.weights Try.prog 58, k ≤ reachBytes) :
    ∃ P A n c B m dd S D, v = CalV P A n c B m dd ∧ IsCal w P A n c B m dd S D := by
  obtain ⟨c0, c1, c2, y0, y1, y2, k, rfl, rfl, -, h0, h1, h2⟩ := open_agg3 Try.underlying58 (by kernel_rfl) (by kernel_rfl) hv h
  obtain ⟨P, e0, -, -⟩ := DataW.trod_int Try.underlying3 h0
  simp at e0
  subst e0
  have hw' := hw
  simp only [DataW.weights, Try.underlying58, DataW.weightsEach, List.map_cons, List.map_nil, List.mem_append] at hw'
  obtain ⟨A, n, c, rfl, S, rfl, hS, hnS⟩ := open_pairs Try.underlying56 cells2 (by kernel_rfl) (fun n cs y h => trod_iv h) h1 (fun q hq => hw' q (by simp [hq]))
  obtain ⟨B, m, dd, rfl, D, rfl, hD, hnD⟩ := open_pairs Try.underlying56 cells2 (by kernel_rfl) (fun n cs y h => trod_iv h) h2 (fun q hq => hw' q (by simp [hq]))
  exact ⟨P, A, _, c, B, _, dd, S, D, rfl, ⟨rfl, rfl, hS, hD, hnS, hnD⟩⟩
end
end Go.Proofs.Ytdcncalcncomoaa
