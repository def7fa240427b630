/- What the arguments of layer 52's statements read as: problems, schedules, orders. -/
import Derived.Test.YtdcncalcncomoaaFrameCal
import Derived.Test.YtdcncalcncomoaaOpenG
import Derived.Test.YtdcncalcncomoaaSch20
namespace Go.Proofs.Ytdcncalcncomoaa
open Go.ChangeShapes Go.WideShapes Go.ChangeAt Go.RowKit Go.Joins
set_option linter.unusedVariables false
section
variable {H : Type} {enc : TypeId × Value → H} {w : World} {base b0 : Nat} {held : Bool} {spare : Nat → Bool} {r : Reach} {v : Value} {d : DataW H} {p : List MemPlace}
theorem cellsSl1 : Try.prog.cellsOf 56 = 1 := by kernel_rfl
theorem cellsSl2 : Try.prog.cellsOf 51 = 1 := by kernel_rfl
theorem cellsCal : Try.prog.cellsOf 58 = 3 := by kernel_rfl
theorem cellsShop : Try.prog.cellsOf 25 = 3 := by kernel_rfl
theorem cellsJob : Try.prog.cellsOf 53 = 6 := by kernel_rfl
theorem cellsSlot : Try.prog.cellsOf 46 = 4 := by kernel_rfl
theorem cellsJobs : Try.prog.cellsOf 26 = 1 := by kernel_rfl
theorem cellsCals : Try.prog.cellsOf 22 = 1 := by kernel_rfl
theorem cellsRows : Try.prog.cellsOf 23 = 1 := by kernel_rfl
theorem trod_n {n : Nat} {cs : List Value} {y : DataW H × List MemPlace} (h : DataW.trod enc Try.prog w base spare held n 3 cs = some y) (hw : ∀ q ∈ y.1.weights Try.prog 3, q ≤ reachBytes) : ∃ x : Int, cs = encN x ∧ True := by
  obtain ⟨a, e0, -, -⟩ := DataW.trod_int Try.underlying3 h
  exact ⟨a, e0, trivial⟩
theorem open_ints {fuel : Nat} {y : DataW H × List MemPlace} (h : DataW.trod enc Try.prog w base spare held fuel 51 [v] = some y) (hw : ∀ q ∈ y.1.weights Try.prog 51, q ≤ reachBytes) :
    ∃ A n c, v = .slice A n c ∧ n ≤ c ∧ ∃ l : List Int, n = l.length ∧ IsInts w A c l ∧ l.length < 4611686018427387904 := by
  obtain ⟨A, n, c, rfl, hnc, l, rfl, hl, hlen, -, -⟩ := open_row_gen (en := encN) (Good := fun _ => True) (k := 1) (fun _ => rfl) (by omega) Try.underlying51 cells1 (of_decide_eq_true (by kernel_rfl)) (fun n cs y h hw => trod_n h hw) h hw
  exact ⟨A, _, c, rfl, hnc, l, rfl, hl, hlen⟩
theorem trod_row {n : Nat} {cs : List Value} {y : DataW H × List MemPlace} (h : DataW.trod enc Try.prog w base spare held n 51 cs = some y) (hw : ∀ q ∈ y.1.weights Try.prog 51, q ≤ reachBytes) : ∃ x : RowR, cs = encR x ∧ (IsInts w x.A x.c x.xs ∧ x.xs.length < 4611686018427387904) := by
  obtain ⟨v, rfl⟩ : ∃ v, cs = [v] := by
    rcases DataW.trod_slice Try.underlying51 h with ⟨rfl, -⟩ | ⟨a, len, cap, elems, rest, n, -, rfl, -⟩ <;> exact ⟨_, rfl⟩
  obtain ⟨A, n, c, rfl, -, l, rfl, hl, hlen⟩ := open_ints h hw
  exact ⟨⟨A, c, l⟩, rfl, hl, hlen⟩
theorem open_rows {fuel : Nat} {y : DataW H × List MemPlace} (h : DataW.trod enc Try.prog w base spare held fuel 23 [v] = some y) (hw : ∀ q ∈ y.1.weights Try.prog 23, q ≤ reachBytes) :
    ∃ A n c, v = .slice A n c ∧ ∃ l : List RowR, n = l.length ∧ IsRows w A c l := by
  obtain ⟨A, n, c, rfl, -, l, rfl, hl, hlen, -, hg⟩ := open_row_gen (en := encR) (k := 1) (fun _ => rfl) (by omega) Try.underlying23 cellsSl2 (of_decide_eq_true (by kernel_rfl)) (fun n cs y h hw => trod_row h hw) h hw
  exact ⟨A, _, c, rfl, l, rfl, hl, hg, hlen⟩
set_option maxRecDepth 100000 in
theorem trod_cal {n : Nat} {cs : List Value} {y : DataW H × List MemPlace} (h : DataW.trod enc Try.prog w base spare held n 58 cs = some y) (hw : ∀ q ∈ y.1.weights Try.prog 58, q ≤ reachBytes) : ∃ x : CalR, cs = encC x ∧ IsCal w x.P x.A x.S.length x.c x.B x.D.length x.d x.S x.D := by
  obtain ⟨y0, y1, y2, m, rfl, hl, h0, h1, h2⟩ := Go.Deep.trod_struct3 Try.underlying58 h
  rw [cellsCal] at hl
  match cs, hl with
  | [u0, u1, u2], _ =>
    simp only [cells1, cellsSl1] at h0 h1 h2
    obtain ⟨P, e0, -, -⟩ := DataW.trod_int Try.underlying3 (show DataW.trod enc Try.prog w base spare held m 3 [u0] = some y0 from h0)
    simp at e0
    subst e0
    have hw' := hw
    simp only [DataW.weights, Try.underlying58, DataW.weightsEach, List.map_cons, List.map_nil, List.mem_append] at hw'
    obtain ⟨A, n, c, rfl, S, rfl, hS, hnS⟩ := open_pairs Try.underlying56 cells2 (by kernel_rfl) (fun n cs y h => trod_iv h) (show DataW.trod enc Try.prog w base spare held m 56 [u1] = some y1 from h1) (fun q hq => hw' q (by simp [hq]))
    obtain ⟨B, k, dd, rfl, D, rfl, hD, hnD⟩ := open_pairs Try.underlying56 cells2 (by kernel_rfl) (fun n cs y h => trod_iv h) (show DataW.trod enc Try.prog w base spare held m 56 [u2] = some y2 from h2) (fun q hq => hw' q (by simp [hq]))
    exact ⟨⟨P, A, c, S, B, dd, D⟩, rfl, ⟨rfl, rfl, hS, hD, hnS, hnD⟩⟩
theorem open_cals {fuel : Nat} {y : DataW H × List MemPlace} (h : DataW.trod enc Try.prog w base spare held fuel 22 [v] = some y) (hw : ∀ q ∈ y.1.weights Try.prog 22, q ≤ reachBytes) :
    ∃ A n c, v = .slice A n c ∧ ∃ l : List CalR, n = l.length ∧ IsCals w A c l := by
  obtain ⟨A, n, c, rfl, -, l, rfl, hl, hlen, -, hg⟩ := open_row_gen (en := encC) (k := 3) (fun _ => rfl) (by omega) Try.underlying22 cellsCal (of_decide_eq_true (by kernel_rfl)) (fun n cs y h hw => trod_cal h hw) h hw
  exact ⟨A, _, c, rfl, l, rfl, hl, hg, hlen⟩
theorem trod_struct6 {P : Program} {t : TypeId} {f0 f1 f2 f3 f4 f5 : Field} {fuel : Nat} {cs : List Value} {x : DataW H × List MemPlace} (ht : P.underlying t = some (.struct #[f0, f1, f2, f3, f4, f5])) (h : DataW.trod enc P w base spare held fuel t cs = some x) :
    ∃ y0 y1 y2 y3 y4 y5 n, x = (.agg [y0.1, y1.1, y2.1, y3.1, y4.1, y5.1], y0.2 ++ (y1.2 ++ (y2.2 ++ (y3.2 ++ (y4.2 ++ y5.2))))) ∧ cs.length = P.cellsOf t ∧ DataW.trod enc P w base spare held n f0.type ((cs.drop f0.offset).take (P.cellsOf f0.type)) = some y0 ∧
      DataW.trod enc P w base spare held n f1.type ((cs.drop f1.offset).take (P.cellsOf f1.type)) = some y1 ∧ DataW.trod enc P w base spare held n f2.type ((cs.drop f2.offset).take (P.cellsOf f2.type)) = some y2 ∧
      DataW.trod enc P w base spare held n f3.type ((cs.drop f3.offset).take (P.cellsOf f3.type)) = some y3 ∧ DataW.trod enc P w base spare held n f4.type ((cs.drop f4.offset).take (P.cellsOf f4.type)) = some y4 ∧ DataW.trod enc P w base spare held n f5.type ((cs.drop f5.offset).take (P.cellsOf f5.type)) = some y5 := by
  obtain ⟨xs, n, _, rfl, hl, hlen, hf⟩ := DataW.trod_struct ht h
  match xs, hlen with
  | [y0, y1, y2, y3, y4, y5], _ => exact ⟨y0, y1, y2, y3, y4, y5, n, by simp, hl, by simpa using hf 0 f0 rfl, by simpa using hf 1 f1 rfl, by simpa using hf 2 f2 rfl, by simpa using hf 3 f3 rfl, by simpa using hf 4 f4 rfl, by simpa using hf 5 f5 rfl⟩
set_option maxRecDepth 100000 in
theorem trod_job {n : Nat} {cs : List Value} {y : DataW H × List MemPlace} (h : DataW.trod enc Try.prog w base spare held n 53 cs = some y) (hw : ∀ q ∈ y.1.weights Try.prog 53, q ≤ reachBytes) : ∃ x : JobR, cs = encJ x ∧ (IsInts w x.A x.c x.ms ∧ x.ms.length < 4611686018427387904) := by
  obtain ⟨y0, y1, y2, y3, y4, y5, m, rfl, hl, h0, h1, h2, h3, h4, h5⟩ := trod_struct6 Try.underlying53 h
  rw [cellsJob] at hl
  match cs, hl with
  | [u0, u1, u2, u3, u4, u5], _ =>
    simp only [cells1, cellsSl2] at h0 h1 h2 h3 h4 h5
    obtain ⟨a1, e1, -, -⟩ := DataW.trod_int Try.underlying3 (show DataW.trod enc Try.prog w base spare held m 3 [u1] = some y1 from h1)
    obtain ⟨a2, e2, -, -⟩ := DataW.trod_int Try.underlying3 (show DataW.trod enc Try.prog w base spare held m 3 [u2] = some y2 from h2)
    obtain ⟨a3, e3, -, -⟩ := DataW.trod_int Try.underlying3 (show DataW.trod enc Try.prog w base spare held m 3 [u3] = some y3 from h3)
    obtain ⟨a4, e4, -, -⟩ := DataW.trod_int Try.underlying3 (show DataW.trod enc Try.prog w base spare held m 3 [u4] = some y4 from h4)
    obtain ⟨a5, e5, -, -⟩ := DataW.trod_int Try.underlying3 (show DataW.trod enc Try.prog w base spare held m 3 [u5] = some y5 from h5)
    simp at e1 e2 e3 e4 e5
    subst e1 e2 e3 e4 e5
    have hw' := hw
    simp only [DataW.weights, Try.underlying53, DataW.weightsEach, List.map_cons, List.map_nil, List.mem_append] at hw'
    obtain ⟨A, n, c, rfl, -, l, rfl, hA, hn⟩ := open_ints (show DataW.trod enc Try.prog w base spare held m 51 [u0] = some y0 from h0) (fun q hq => hw' q (by simp [hq]))
    exact ⟨⟨A, c, l, a1, a2, a3, a4, a5⟩, rfl, hA, hn⟩
theorem open_jobs {fuel : Nat} {y : DataW H × List MemPlace} (h : DataW.trod enc Try.prog w base spare held fuel 26 [v] = some y) (hw : ∀ q ∈ y.1.weights Try.prog 26, q ≤ reachBytes) :
    ∃ A n c, v = .slice A n c ∧ ∃ l : List JobR, n = l.length ∧ IsJobs w A c l := by
  obtain ⟨A, n, c, rfl, -, l, rfl, hl, hlen, -, hg⟩ := open_row_gen (en := encJ) (k := 6) (fun _ => rfl) (by omega) Try.underlying26 cellsJob (of_decide_eq_true (by kernel_rfl)) (fun n cs y h hw => trod_job h hw) h hw
  exact ⟨A, _, c, rfl, l, rfl, hl, hg, hlen⟩
set_option maxRecDepth 100000 in
theorem trod_slot {n : Nat} {cs : List Value} {y : DataW H × List MemPlace} (h : DataW.trod enc Try.prog w base spare held n 46 cs = some y) (hw : ∀ q ∈ y.1.weights Try.prog 46, q ≤ reachBytes) : ∃ x : SlotR, cs = encS x ∧ True := by
  obtain ⟨y0, y1, y2, y3, m, rfl, hl, h0, h1, h2, h3⟩ := trod_struct4 Try.underlying46 h
  rw [cellsSlot] at hl
  match cs, hl with
  | [u0, u1, u2, u3], _ =>
    simp only [cells1] at h0 h1 h2 h3
    obtain ⟨a0, e0, -, -⟩ := DataW.trod_int Try.underlying3 (show DataW.trod enc Try.prog w base spare held m 3 [u0] = some y0 from h0)
    obtain ⟨a1, e1, -, -⟩ := DataW.trod_int Try.underlying3 (show DataW.trod enc Try.prog w base spare held m 3 [u1] = some y1 from h1)
    obtain ⟨a2, e2, -, -⟩ := DataW.trod_int Try.underlying3 (show DataW.trod enc Try.prog w base spare held m 3 [u2] = some y2 from h2)
    obtain ⟨a3, e3, -, -⟩ := DataW.trod_int Try.underlying3 (show DataW.trod enc Try.prog w base spare held m 3 [u3] = some y3 from h3)
    simp at e0 e1 e2 e3
    subst e0 e1 e2 e3
    exact ⟨⟨a0, a1, a2, a3⟩, rfl, trivial⟩
set_option maxRecDepth 100000 in
theorem open_slots (hv : Value.okWide Try.prog w r b0 29 v) (h : DataW.Trod enc Try.prog w base spare held 29 v d p) (hw : ∀ k ∈ d.weights Try.prog 29, k ≤ reachBytes) :
    ∃ A n c, v = .slice A n c ∧ n ≤ c ∧ ∃ l : List SlotR, n = l.length ∧ IsSlots w A c l ∧ l.length < 4611686018427387904 := by
  obtain ⟨a0, len0, cap0, rfl⟩ := okWide_slice Try.underlying29 hv
  obtain ⟨fuel, hf⟩ := h
  obtain ⟨A, n, c, e, hnc, l, rfl, hl, hlen, -, -⟩ := open_row_gen (en := encS) (Good := fun _ => True) (k := 4) (fun _ => rfl) (by omega) Try.underlying29 cellsSlot (of_decide_eq_true (by kernel_rfl)) (fun n cs y h hw => trod_slot h hw) (show DataW.trod enc Try.prog w base spare held fuel 29 [Value.slice a0 len0 cap0] = some (d, p) from hf) hw
  exact ⟨A, _, c, e, hnc, l, rfl, hl, hlen⟩
set_option maxRecDepth 100000 in
theorem open_order (hv : Value.okWide Try.prog w r b0 51 v) (h : DataW.Trod enc Try.prog w base spare held 51 v d p) (hw : ∀ k ∈ d.weights Try.prog 51, k ≤ reachBytes) :
    ∃ A n c, v = .slice A n c ∧ n ≤ c ∧ ∃ l : List Int, n = l.length ∧ IsInts w A c l ∧ l.length < 4611686018427387904 := by
  obtain ⟨a0, len0, cap0, rfl⟩ := okWide_slice Try.underlying51 hv
  obtain ⟨fuel, hf⟩ := h
  exact open_ints (show DataW.trod enc Try.prog w base spare held fuel 51 [Value.slice a0 len0 cap0] = some (d, p) from hf) hw
set_option maxRecDepth 100000 in
theorem open_prob (hv : Value.okWide Try.prog w r b0 28 v) (h : DataW.Trod enc Try.prog w base spare held 28 v d p) (hw : ∀ k ∈ d.weights Try.prog 28, k ≤ reachBytes) :
    ∃ (s : ShopR) (A : Option Addr) (n c : Nat), v = probV s A n c ∧ ∃ L : List JobR, n = L.length ∧ IsShop w s ∧ IsJobs w A c L := by
  obtain ⟨cs, rfl, hsz⟩ := okWide_struct Try.underlying28 hv
  obtain ⟨c0, c1, c2, c3, rfl⟩ := array4 (hsz.trans (by kernel_rfl))
  obtain ⟨fuel, hf⟩ := h
  obtain ⟨y0, y1, n, hx, _, h0, h1⟩ := trod_struct2 Try.underlying28 hf
  simp only [cellsShop, cellsJobs] at h0 h1
  simp only [Prod.mk.injEq] at hx
  obtain ⟨rfl, rfl⟩ := hx
  have hw' := hw
  simp only [DataW.weights, Try.underlying28, DataW.weightsEach, List.map_cons, List.map_nil, List.mem_append] at hw'
  have h0' : DataW.trod enc Try.prog w base spare held n 25 [c0, c1, c2] = some y0 := h0
  have h1' : DataW.trod enc Try.prog w base spare held n 26 [c3] = some y1 := h1
  obtain ⟨z0, z1, z2, m, rfl, -, k0, k1, k2⟩ := Go.Deep.trod_struct3 Try.underlying25 h0'
  simp only [cells1, cellsCals, cellsRows] at k0 k1 k2
  obtain ⟨most, e2, -, -⟩ := DataW.trod_int Try.underlying3 (show DataW.trod enc Try.prog w base spare held m 3 [c2] = some z2 from k2)
  simp at e2
  subst e2
  have hs' : ∀ q ∈ (DataW.agg [z0.1, z1.1, z2.1]).weights Try.prog 25, q ≤ reachBytes := fun q hq => hw' q (by simp [hq])
  simp only [DataW.weights, Try.underlying25, DataW.weightsEach, List.map_cons, List.map_nil, List.mem_append] at hs'
  obtain ⟨cA, cn, cc, rfl, cals, rfl, hcals⟩ := open_cals (show DataW.trod enc Try.prog w base spare held m 22 [c0] = some z0 from k0) (fun q hq => hs' q (by simp [hq]))
  obtain ⟨rA, rn, rc, rfl, rows, rfl, hrows⟩ := open_rows (show DataW.trod enc Try.prog w base spare held m 23 [c1] = some z1 from k1) (fun q hq => hs' q (by simp [hq]))
  obtain ⟨A, jn, c, rfl, L, rfl, hL⟩ := open_jobs h1' (fun q hq => hw' q (by simp [hq]))
  exact ⟨⟨cA, cc, cals, rA, rc, rows, most⟩, A, _, c, rfl, L, rfl, ⟨hcals, hrows⟩, hL⟩
set_option maxRecDepth 100000 in
theorem okWide_arr {m : Nat} {t e : TypeId} (ht : Try.prog.underlying t = some (.array m e)) (h : Value.okWide Try.prog w r b0 t v) : ∃ cs, v = .agg cs ∧ cs.size = Try.prog.cellsOf t := by
  simp only [Value.okWide, ht] at h
  obtain ⟨cs, h1, h2, _⟩ := h
  exact ⟨cs, h1, h2⟩
theorem cellsU8 : Try.prog.cellsOf 5 = 1 := by kernel_rfl
end
end Go.Proofs.Ytdcncalcncomoaa
