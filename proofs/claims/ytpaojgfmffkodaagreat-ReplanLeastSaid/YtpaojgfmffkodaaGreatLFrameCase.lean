/- What the arguments of layer 54's statements read as: cases. -/
import Derived.Test.YtpaojgfmffkodaaGreatLFrameProb
import Derived.Test.YtpaojgfmffkodaaGreatLRep24
namespace Go.Proofs.YtpaojgfmffkodaaGreat
set_option linter.unusedVariables false
set_option linter.unusedSimpArgs false
open Go.ChangeShapes Go.WideShapes Go.ChangeAt Go.RowKit Go.Joins
section
variable {H : Type} {enc : TypeId × Value → H} {w : World} {base b0 : Nat} {held : Bool} {spare : Nat → Bool} {r : Reach} {v : Value} {d : DataW H} {p : List MemPlace}
theorem cellsProb : Tryz.prog.cellsOf 28 = 4 := by kernel_rfl
theorem cellsSlots : Tryz.prog.cellsOf 29 = 1 := by kernel_rfl
theorem cellsEvs : Tryz.prog.cellsOf 30 = 1 := by kernel_rfl
theorem cellsEv : Tryz.prog.cellsOf 79 = 5 := by kernel_rfl
theorem array7 {α : Type} {cs : Array α} (h : cs.size = 7) : ∃ a b c d e f g, cs = #[a, b, c, d, e, f, g] := by
  obtain ⟨l⟩ := cs
  match l, h with
  | [a, b, c, d, e, f, g], _ => exact ⟨a, b, c, d, e, f, g, rfl⟩
theorem trod_struct5 {P : Program} {t : TypeId} {f0 f1 f2 f3 f4 : Field} {fuel : Nat} {cs : List Value} {x : DataW H × List MemPlace} (ht : P.underlying t = some (.struct #[f0, f1, f2, f3, f4])) (h : DataW.trod enc P w base spare held fuel t cs = some x) :
    ∃ y0 y1 y2 y3 y4 n, x = (.agg [y0.1, y1.1, y2.1, y3.1, y4.1], y0.2 ++ (y1.2 ++ (y2.2 ++ (y3.2 ++ y4.2)))) ∧ cs.length = P.cellsOf t ∧ DataW.trod enc P w base spare held n f0.type ((cs.drop f0.offset).take (P.cellsOf f0.type)) = some y0 ∧
      DataW.trod enc P w base spare held n f1.type ((cs.drop f1.offset).take (P.cellsOf f1.type)) = some y1 ∧ DataW.trod enc P w base spare held n f2.type ((cs.drop f2.offset).take (P.cellsOf f2.type)) = some y2 ∧
      DataW.trod enc P w base spare held n f3.type ((cs.drop f3.offset).take (P.cellsOf f3.type)) = some y3 ∧ DataW.trod enc P w base spare held n f4.type ((cs.drop f4.offset).take (P.cellsOf f4.type)) = some y4 := by
  obtain ⟨xs, n, _, rfl, hl, hlen, hf⟩ := DataW.trod_struct ht h
  match xs, hlen with
  | [y0, y1, y2, y3, y4], _ => exact ⟨y0, y1, y2, y3, y4, n, by simp, hl, by simpa using hf 0 f0 rfl, by simpa using hf 1 f1 rfl, by simpa using hf 2 f2 rfl, by simpa using hf 3 f3 rfl, by simpa using hf 4 f4 rfl⟩
set_option maxRecDepth 100000 in
theorem trod_ev {n : Nat} {cs : List Value} {y : DataW H × List MemPlace} (h : DataW.trod enc Tryz.prog w base spare held n 79 cs = some y) (hw : ∀ q ∈ y.1.weights Tryz.prog 79, q ≤ reachBytes) : ∃ x : EvR, cs = encE x ∧ True := by
  obtain ⟨y0, y1, y2, y3, y4, m, rfl, hl, h0, h1, h2, h3, h4⟩ := trod_struct5 Tryz.underlying79 h
  rw [cellsEv] at hl
  match cs, hl with
  | [u0, u1, u2, u3, u4], _ =>
    simp only [cells1] at h0 h1 h2 h3 h4
    obtain ⟨a0, e0, -, -⟩ := DataW.trod_int Tryz.underlying3 (show DataW.trod enc Tryz.prog w base spare held m 3 [u0] = some y0 from h0)
    obtain ⟨a1, e1, -, -⟩ := DataW.trod_int Tryz.underlying3 (show DataW.trod enc Tryz.prog w base spare held m 3 [u1] = some y1 from h1)
    obtain ⟨a2, e2, -, -⟩ := DataW.trod_int Tryz.underlying3 (show DataW.trod enc Tryz.prog w base spare held m 3 [u2] = some y2 from h2)
    obtain ⟨a3, e3, -, -⟩ := DataW.trod_int Tryz.underlying3 (show DataW.trod enc Tryz.prog w base spare held m 3 [u3] = some y3 from h3)
    obtain ⟨a4, e4, -, -⟩ := DataW.trod_int Tryz.underlying3 (show DataW.trod enc Tryz.prog w base spare held m 3 [u4] = some y4 from h4)
    simp at e0 e1 e2 e3 e4
    subst e0 e1 e2 e3 e4
    exact ⟨⟨a0, a1, a2, a3, a4⟩, rfl, trivial⟩
set_option maxRecDepth 100000 in
theorem open_case (hv : Value.okWide Tryz.prog w r b0 32 v) (h : DataW.Trod enc Tryz.prog w base spare held 32 v d p) (hw : ∀ k ∈ d.weights Tryz.prog 32, k ≤ reachBytes) :
    ∃ x : CaseR, v = caseV x ∧ IsCase w x := by
  obtain ⟨cs, rfl, hsz⟩ := okWide_struct Tryz.underlying32 hv
  obtain ⟨c0, c1, c2, c3, c4, c5, c6, rfl⟩ := array7 (hsz.trans (by kernel_rfl))
  obtain ⟨fuel, hf⟩ := h
  obtain ⟨u0, u1, u2, u3, nu, hx, _, h0, h1, h2, h3⟩ := trod_struct4 Tryz.underlying32 hf
  simp only [cellsProb, cellsSlots, cells1, cellsEvs] at h0 h1 h2 h3
  simp only [Prod.mk.injEq] at hx
  obtain ⟨rfl, rfl⟩ := hx
  have hq := hw
  simp only [DataW.weights, Tryz.underlying32, DataW.weightsEach, List.map_cons, List.map_nil, List.mem_append] at hq
  have h0' : DataW.trod enc Tryz.prog w base spare held nu 28 [c0, c1, c2, c3] = some u0 := h0
  have hw0 : ∀ q ∈ u0.1.weights Tryz.prog 28, q ≤ reachBytes := fun q hqq => hq q (by simp [hqq])
  obtain ⟨now, e2, -, -⟩ := DataW.trod_int Tryz.underlying3 (show DataW.trod enc Tryz.prog w base spare held nu 3 [c5] = some u2 from h2)
  simp at e2
  subst e2
  obtain ⟨B, bn, bd, e1, hnc, l, rfl, hl, hlen, -, -⟩ := open_row_gen (en := encS) (Good := fun _ => True) (k := 4) (fun _ => rfl) (by omega) Tryz.underlying29 cellsSlot (of_decide_eq_true (by kernel_rfl)) (fun n cs y h hw => trod_slot h hw) (show DataW.trod enc Tryz.prog w base spare held nu 29 [c4] = some u1 from h1) (fun q hqq => hq q (by simp [hqq]))
  subst e1
  obtain ⟨E, en, ed, e3, -, evs, rfl, hev, hevl, -, -⟩ := open_row_gen (en := encE) (Good := fun _ => True) (k := 5) (fun _ => rfl) (by omega) Tryz.underlying30 cellsEv (of_decide_eq_true (by kernel_rfl)) (fun n cs y h hw => trod_ev h hw) (show DataW.trod enc Tryz.prog w base spare held nu 30 [c6] = some u3 from h3) (fun q hqq => hq q (by simp [hqq]))
  subst e3
  obtain ⟨y0, y1, n, rfl, _, h0, h1⟩ := trod_struct2 Tryz.underlying28 h0'
  simp only [cellsShop, cellsJobs] at h0 h1
  have hw' := hw0
  simp only [DataW.weights, Tryz.underlying28, DataW.weightsEach, List.map_cons, List.map_nil, List.mem_append] at hw'
  have h0' : DataW.trod enc Tryz.prog w base spare held n 25 [c0, c1, c2] = some y0 := h0
  have h1' : DataW.trod enc Tryz.prog w base spare held n 26 [c3] = some y1 := h1
  obtain ⟨z0, z1, z2, m, rfl, -, k0, k1, k2⟩ := Go.Deep.trod_struct3 Tryz.underlying25 h0'
  simp only [cells1, cellsCals, cellsRows] at k0 k1 k2
  obtain ⟨most, e2, -, -⟩ := DataW.trod_int Tryz.underlying3 (show DataW.trod enc Tryz.prog w base spare held m 3 [c2] = some z2 from k2)
  simp at e2
  subst e2
  have hs' : ∀ q ∈ (DataW.agg [z0.1, z1.1, z2.1]).weights Tryz.prog 25, q ≤ reachBytes := fun q hq => hw' q (by simp [hq])
  simp only [DataW.weights, Tryz.underlying25, DataW.weightsEach, List.map_cons, List.map_nil, List.mem_append] at hs'
  obtain ⟨cA, cn, cc, rfl, cals, rfl, hcals⟩ := open_cals (show DataW.trod enc Tryz.prog w base spare held m 22 [c0] = some z0 from k0) (fun q hq => hs' q (by simp [hq]))
  obtain ⟨rA, rn, rc, rfl, rows, rfl, hrows⟩ := open_rows (show DataW.trod enc Tryz.prog w base spare held m 23 [c1] = some z1 from k1) (fun q hq => hs' q (by simp [hq]))
  obtain ⟨A, jn, c, rfl, L, rfl, hL⟩ := open_jobs h1' (fun q hq => hw' q (by simp [hq]))
  exact ⟨⟨⟨cA, cc, cals, rA, rc, rows, most⟩, A, c, L, B, bd, l, now, E, ed, evs⟩, rfl, ⟨⟨hcals, hrows⟩, hL, hl, hev, hnc, hlen, hevl⟩⟩
end
end Go.Proofs.YtpaojgfmffkodaaGreat
