/- How arguments are opened: calendars by value, what is asked by value; slices of pairs. -/
import Derived.Test.YtpaojgfmffkodaaGreatRows
import Derived.Test.YtpaojgfmffkodaaGreatLCal10
import Derived.OpenShut
import Derived.ChangeOld
import Derived.Lib.SmallJoins
import Derived.Deep.Slices
import Derived.Deep.Fields
import Derived.SizedLaws
import Derived.Test.YtpaojgfmffkodaaGreatLSl
import Derived.Test.YtpaojgfmffkodaaGreatLSch20
namespace Go.Proofs.YtpaojgfmffkodaaGreat
set_option linter.unusedVariables false
set_option linter.unusedSimpArgs false
open Go.ChangeShapes Go.WideShapes Go.ChangeAt Go.RowKit Go.Joins
theorem own : ownKnob Tryz.prog.godebug = none := by kernel_rfl
theorem laidOut : laidOutB Tryz.prog = true := by kernel_rfl
section
variable {H : Type} {enc : TypeId × Value → H} {w : World} {base : Nat} {spare : Nat → Bool} {held : Bool} {r : Reach} {b0 : Nat} {v : Value} {d : DataW H} {p : List MemPlace}
theorem cells1 : Tryz.prog.cellsOf 3 = 1 := by kernel_rfl
theorem cells2 : Tryz.prog.cellsOf 80 = 2 := by kernel_rfl
set_option maxRecDepth 100000 in
theorem trod_iv {n : Nat} {cs : List Value} {y : DataW H × List MemPlace} (h : DataW.trod enc Tryz.prog w base spare held n 80 cs = some y) : ∃ a b : Int, cs = [.int .i64 a, .int .i64 b] := by
  obtain ⟨xs, m, -, -, hl, lx, hf⟩ := DataW.trod_array Tryz.underlying80 h
  rw [cells2] at hl
  match cs, hl with
  | [u0, u1], _ =>
    have h0 := hf 0 (by omega)
    have h1 := hf 1 (by omega)
    rw [cells1] at h0 h1
    have h0' : DataW.trod enc Tryz.prog w base spare held m 3 [u0] = xs[0]? := by simpa using h0
    have h1' : DataW.trod enc Tryz.prog w base spare held m 3 [u1] = xs[1]? := by simpa using h1
    rw [List.getElem?_eq_getElem (by omega)] at h0' h1'
    obtain ⟨a, e0, -, -⟩ := DataW.trod_int Tryz.underlying3 h0'
    obtain ⟨b, e1, -, -⟩ := DataW.trod_int Tryz.underlying3 h1'
    simp at e0 e1
    exact ⟨a, b, by rw [e0, e1]⟩
theorem open_pairs {t e : TypeId} {fuel : Nat} {y : DataW H × List MemPlace} (ht : Tryz.prog.underlying t = some (.slice e)) (hc : Tryz.prog.cellsOf e = 2) (hby : Tryz.prog.bytesOf e = 16)
    (hel : ∀ (n : Nat) (cs : List Value) (y : DataW H × List MemPlace), DataW.trod enc Tryz.prog w base spare held n e cs = some y → ∃ a b : Int, cs = [.int .i64 a, .int .i64 b])
    (h : DataW.trod enc Tryz.prog w base spare held fuel t [v] = some y) (hw : ∀ k ∈ y.1.weights Tryz.prog t, k ≤ reachBytes) :
    ∃ A n c, v = .slice A n c ∧ ∃ l, n = l.length ∧ IsIvs w A c l ∧ l.length < 4611686018427387904 := by
  rcases Go.Deep.open_slice ht h with ⟨hcs, hx⟩ | ⟨a, len0, cap0, m, n, D, Pl, hcs, hb, hl, hm, hmm, hx, hi⟩
  · obtain rfl : v = .slice none 0 0 := by simpa using hcs
    exact ⟨none, 0, 0, rfl, [], rfl, IsRow.nil _ _ _, by decide⟩
  · obtain rfl : v = .slice (some a) len0 cap0 := by simpa using hcs
    subst hx
    have hlen : len0 < 4611686018427387904 := by
      have := hw _ (by simp only [DataW.weights, ht]; exact List.mem_cons_self)
      rw [hby] at this
      simp only [List.length_map, List.length_range] at this
      have hr : reachBytes < 2 ^ 47 := reachBytes_lt
      omega
    refine ⟨some a, len0, cap0, rfl, ?_⟩
    have hlm : len0 ≤ m := by rw [hmm]; split <;> omega
    have each : ∀ i, ∃ q : Int × Int, i < len0 → w.cell? (a.add (i * 2)) = some (.int .i64 q.1) ∧ w.cell? (a.add (i * 2 + 1)) = some (.int .i64 q.2) := by
      intro i
      by_cases hlt : i < len0
      · obtain ⟨cs', hc', ht'⟩ := hi i (by omega)
        rw [hc] at hc'
        obtain ⟨_, hcl, hat⟩ := World.cells?_some hc'
        obtain ⟨x, y, rfl⟩ := hel _ _ _ ht'
        have g0 := hat 0 (by omega)
        have g1 := hat 1 (by omega)
        refine ⟨(x, y), fun _ => ⟨?_, ?_⟩⟩
        · simpa [Addr.add] using g0
        · rw [Go.Deep.add_add] at g1; simpa using g1
      · exact ⟨(0, 0), fun h => absurd h hlt⟩
    obtain ⟨f, hf2⟩ : ∃ f : Nat → Int × Int, ∀ i, i < len0 → w.cell? (a.add (i * 2)) = some (.int .i64 (f i).1) ∧ w.cell? (a.add (i * 2 + 1)) = some (.int .i64 (f i).2) :=
      ⟨fun i => Classical.choose (each i), fun i => Classical.choose_spec (each i)⟩
    by_cases h0 : len0 = 0
    · subst h0
      exact ⟨[], rfl, ⟨(fun h => by cases h), .inl rfl⟩, by decide⟩
    · obtain ⟨g, off, spot⟩ := a
      have hspot : spot = none := by simpa [Addr.add] using World.cell?_spot (hf2 0 (by omega)).1
      subst hspot
      refine ⟨(List.range len0).map f, by simp, ⟨(fun h => by cases h), .inr ⟨g, off, rfl, ⟨fun i hi2 j u hu => ?_, ?_⟩⟩⟩, by simpa using hlen⟩
      · have hlt : i < len0 := by simpa using hi2
        obtain ⟨k0, k1⟩ := hf2 i hlt
        rw [add_none] at k0 k1
        simp only [List.getElem_map, List.getElem_range] at hu
        match j, hu with
        | 0, hu => simp [encV] at hu; subst hu; exact k0
        | 1, hu => simp [encV] at hu; subst hu; rw [Nat.add_assoc]; exact k1
        | j + 2, hu => simp [encV] at hu
      · have k0 := (hf2 0 (by omega)).1
        rw [add_none] at k0
        exact ⟨⟨by rcases Nat.lt_or_ge g w.heap.size with h | h
                   · exact h
                   · simp [World.cell?, Array.getElem?_eq_none h] at k0⟩⟩
end
end Go.Proofs.YtpaojgfmffkodaaGreat
/- Opening slices of elements of any encoding that came in. -/
namespace Go.Proofs.YtpaojgfmffkodaaGreat
set_option linter.unusedVariables false
set_option linter.unusedSimpArgs false
open Go.ChangeShapes Go.WideShapes Go.ChangeAt Go.RowKit Go.Joins
section
variable {H : Type} {enc : TypeId × Value → H} {P : Program} {w : World} {base : Nat} {spare : Nat → Bool} {held : Bool} {r : Reach} {b0 : Nat} {v : Value} {d : DataW H} {p : List MemPlace}
theorem mem_weightsAll {e : TypeId} {d : DataW H} : ∀ {ds : List (DataW H)}, d ∈ ds → ∀ q ∈ d.weights P e, q ∈ DataW.weightsAll P e ds
  | [], hm, _, _ => by cases hm
  | d0 :: ds, hm, q, hq => by
    rw [DataW.weightsAll, List.mem_append]
    rcases List.mem_cons.1 hm with rfl | hm
    · exact .inl hq
    · exact .inr (mem_weightsAll hm q hq)
theorem open_row_gen {α : Type} {en : α → List Value} {k : Nat} {Good : α → Prop} {t e : TypeId} {fuel : Nat} {y : DataW H × List MemPlace} (hk : ∀ x, (en x).length = k) (hk0 : 0 < k) (ht : P.underlying t = some (.slice e)) (hc : P.cellsOf e = k) (hby : 1 ≤ P.bytesOf e)
    (hel : ∀ (n : Nat) (cs : List Value) (y : DataW H × List MemPlace), DataW.trod enc P w base spare held n e cs = some y → (∀ q ∈ y.1.weights P e, q ≤ reachBytes) → ∃ x : α, cs = en x ∧ Good x)
    (h : DataW.trod enc P w base spare held fuel t [v] = some y) (hw : ∀ q ∈ y.1.weights P t, q ≤ reachBytes) :
    ∃ A n c, v = .slice A n c ∧ n ≤ c ∧ ∃ l : List α, n = l.length ∧ IsRow en k w A c l ∧ l.length < 4611686018427387904 ∧ l.length * P.bytesOf e ≤ 140737488355328 ∧ ∀ x ∈ l, Good x := by
  rcases Go.Deep.open_slice ht h with ⟨hcs, hx⟩ | ⟨a, len0, cap0, m, n, D, Pl, hcs, hb, hl, hm, hmm, hx, hi⟩
  · obtain rfl : v = .slice none 0 0 := by simpa using hcs
    exact ⟨none, 0, 0, rfl, Nat.le_refl _, [], rfl, IsRow.nil _ _ _, by simp, by simp, by simp⟩
  · obtain rfl : v = .slice (some a) len0 cap0 := by simpa using hcs
    subst hx
    have hbytes : len0 * P.bytesOf e ≤ reachBytes := by
      have := hw _ (by simp only [DataW.weights, ht]; exact List.mem_cons_self)
      simp only [List.length_map, List.length_range] at this
      have h2 : len0 * P.bytesOf e ≤ (len0 + (m - len0)) * P.bytesOf e := Nat.mul_le_mul_right _ (by omega)
      omega
    have hr : reachBytes < 2 ^ 47 := reachBytes_lt
    have hlen : len0 < 4611686018427387904 := by
      have h1 : len0 * 1 ≤ len0 * P.bytesOf e := Nat.mul_le_mul_left _ hby
      omega
    refine ⟨some a, len0, cap0, rfl, hl, ?_⟩
    have hlm : len0 ≤ m := by rw [hmm]; split <;> omega
    by_cases h0 : len0 = 0
    · subst h0
      exact ⟨[], rfl, ⟨(fun h => by cases h), .inl rfl⟩, by simp, by simp, by simp⟩
    · have one : ∀ i, i < len0 → ∃ x : α, Good x ∧ ∀ j u, (en x)[j]? = some u → w.cell? (a.add (i * k + j)) = some u := by
        intro i hlt
        obtain ⟨cs', hc', ht'⟩ := hi i (by omega)
        rw [hc] at hc'
        obtain ⟨_, hcl, hat⟩ := World.cells?_some hc'
        obtain ⟨x, rfl, hg⟩ := hel _ _ _ ht' (fun q hq => hw q (by
          simp only [DataW.weights, ht]
          exact List.mem_cons_of_mem _ (List.mem_append_left _ (mem_weightsAll (List.mem_map.2 ⟨i, by simpa using hlt, rfl⟩) q hq))))
        refine ⟨x, hg, fun j u hu => ?_⟩
        have hj : j < k := by
          have := (List.getElem?_eq_some_iff.1 hu).1
          rwa [hk] at this
        have := hat j hj
        rw [Go.Deep.add_add] at this
        rw [this, hu]
      obtain ⟨x0, hx0⟩ := one 0 (by omega)
      have each : ∀ i, ∃ x : α, i < len0 → Good x ∧ ∀ j u, (en x)[j]? = some u → w.cell? (a.add (i * k + j)) = some u := by
        intro i
        by_cases hlt : i < len0
        · obtain ⟨x, hx⟩ := one i hlt
          exact ⟨x, fun _ => hx⟩
        · exact ⟨x0, fun h => absurd h hlt⟩
      obtain ⟨f, hf⟩ : ∃ f : Nat → α, ∀ i, i < len0 → Good (f i) ∧ ∀ j u, (en (f i))[j]? = some u → w.cell? (a.add (i * k + j)) = some u :=
        ⟨fun i => Classical.choose (each i), fun i => Classical.choose_spec (each i)⟩
      obtain ⟨g, off, spot⟩ := a
      obtain ⟨u0, hu0⟩ : ∃ u, (en (f 0))[0]? = some u := ⟨_, List.getElem?_eq_getElem (by rw [hk]; exact hk0)⟩
      have c0 := (hf 0 (by omega)).2 0 u0 hu0
      have hspot : spot = none := by simpa [Addr.add] using World.cell?_spot c0
      subst hspot
      refine ⟨(List.range len0).map f, by simp, ⟨(fun h => by cases h), .inr ⟨g, off, rfl, ⟨fun i hi2 j u hu => ?_, ?_⟩⟩⟩, by simpa using hlen, by simp only [List.length_map, List.length_range]; omega, ?_⟩
      · have hlt : i < len0 := by simpa using hi2
        simp only [List.getElem_map, List.getElem_range] at hu
        have := (hf i hlt).2 j u hu
        rw [add_none] at this
        rw [Nat.add_assoc]
        exact this
      · rw [add_none] at c0
        exact ⟨⟨by rcases Nat.lt_or_ge g w.heap.size with h | h
                   · exact h
                   · simp [World.cell?, Array.getElem?_eq_none h] at c0⟩⟩
      · intro x hx
        obtain ⟨i, hi, rfl⟩ := List.mem_map.1 hx
        exact (hf i (by simpa using hi)).1
end
end Go.Proofs.YtpaojgfmffkodaaGreat
/- What the arguments of layer 52's statements read as: problems, schedules, orders. -/
namespace Go.Proofs.YtpaojgfmffkodaaGreat
set_option linter.unusedVariables false
set_option linter.unusedSimpArgs false
open Go.ChangeShapes Go.WideShapes Go.ChangeAt Go.RowKit Go.Joins
section
variable {H : Type} {enc : TypeId × Value → H} {w : World} {base b0 : Nat} {held : Bool} {spare : Nat → Bool} {r : Reach} {v : Value} {d : DataW H} {p : List MemPlace}
theorem cellsSl1 : Tryz.prog.cellsOf 81 = 1 := by kernel_rfl
theorem cellsSl2 : Tryz.prog.cellsOf 57 = 1 := by kernel_rfl
theorem cellsCal : Tryz.prog.cellsOf 103 = 3 := by kernel_rfl
theorem cellsShop : Tryz.prog.cellsOf 25 = 3 := by kernel_rfl
theorem cellsJob : Tryz.prog.cellsOf 87 = 6 := by kernel_rfl
theorem cellsSlot : Tryz.prog.cellsOf 77 = 4 := by kernel_rfl
theorem cellsJobs : Tryz.prog.cellsOf 26 = 1 := by kernel_rfl
theorem cellsCals : Tryz.prog.cellsOf 22 = 1 := by kernel_rfl
theorem cellsRows : Tryz.prog.cellsOf 23 = 1 := by kernel_rfl
theorem trod_n {n : Nat} {cs : List Value} {y : DataW H × List MemPlace} (h : DataW.trod enc Tryz.prog w base spare held n 3 cs = some y) (hw : ∀ q ∈ y.1.weights Tryz.prog 3, q ≤ reachBytes) : ∃ x : Int, cs = encN x ∧ True := by
  obtain ⟨a, e0, -, -⟩ := DataW.trod_int Tryz.underlying3 h
  exact ⟨a, e0, trivial⟩
theorem open_ints {fuel : Nat} {y : DataW H × List MemPlace} (h : DataW.trod enc Tryz.prog w base spare held fuel 57 [v] = some y) (hw : ∀ q ∈ y.1.weights Tryz.prog 57, q ≤ reachBytes) :
    ∃ A n c, v = .slice A n c ∧ n ≤ c ∧ ∃ l : List Int, n = l.length ∧ IsInts w A c l ∧ l.length < 4611686018427387904 := by
  obtain ⟨A, n, c, rfl, hnc, l, rfl, hl, hlen, -, -⟩ := open_row_gen (en := encN) (Good := fun _ => True) (k := 1) (fun _ => rfl) (by omega) Tryz.underlying57 cells1 (of_decide_eq_true (by kernel_rfl)) (fun n cs y h hw => trod_n h hw) h hw
  exact ⟨A, _, c, rfl, hnc, l, rfl, hl, hlen⟩
theorem trod_row {n : Nat} {cs : List Value} {y : DataW H × List MemPlace} (h : DataW.trod enc Tryz.prog w base spare held n 57 cs = some y) (hw : ∀ q ∈ y.1.weights Tryz.prog 57, q ≤ reachBytes) : ∃ x : RowR, cs = encR x ∧ (IsInts w x.A x.c x.xs ∧ x.xs.length < 4611686018427387904) := by
  obtain ⟨v, rfl⟩ : ∃ v, cs = [v] := by
    rcases DataW.trod_slice Tryz.underlying57 h with ⟨rfl, -⟩ | ⟨a, len, cap, elems, rest, n, -, rfl, -⟩ <;> exact ⟨_, rfl⟩
  obtain ⟨A, n, c, rfl, -, l, rfl, hl, hlen⟩ := open_ints h hw
  exact ⟨⟨A, c, l⟩, rfl, hl, hlen⟩
theorem open_rows {fuel : Nat} {y : DataW H × List MemPlace} (h : DataW.trod enc Tryz.prog w base spare held fuel 23 [v] = some y) (hw : ∀ q ∈ y.1.weights Tryz.prog 23, q ≤ reachBytes) :
    ∃ A n c, v = .slice A n c ∧ ∃ l : List RowR, n = l.length ∧ IsRows w A c l := by
  obtain ⟨A, n, c, rfl, -, l, rfl, hl, hlen, -, hg⟩ := open_row_gen (en := encR) (k := 1) (fun _ => rfl) (by omega) Tryz.underlying23 cellsSl2 (of_decide_eq_true (by kernel_rfl)) (fun n cs y h hw => trod_row h hw) h hw
  exact ⟨A, _, c, rfl, l, rfl, hl, hg, hlen⟩
set_option maxRecDepth 100000 in
theorem trod_cal {n : Nat} {cs : List Value} {y : DataW H × List MemPlace} (h : DataW.trod enc Tryz.prog w base spare held n 103 cs = some y) (hw : ∀ q ∈ y.1.weights Tryz.prog 103, q ≤ reachBytes) : ∃ x : CalR, cs = encC x ∧ IsCal w x.P x.A x.S.length x.c x.B x.D.length x.d x.S x.D := by
  obtain ⟨y0, y1, y2, m, rfl, hl, h0, h1, h2⟩ := Go.Deep.trod_struct3 Tryz.underlying103 h
  rw [cellsCal] at hl
  match cs, hl with
  | [u0, u1, u2], _ =>
    simp only [cells1, cellsSl1] at h0 h1 h2
    obtain ⟨P, e0, -, -⟩ := DataW.trod_int Tryz.underlying3 (show DataW.trod enc Tryz.prog w base spare held m 3 [u0] = some y0 from h0)
    simp at e0
    subst e0
    have hw' := hw
    simp only [DataW.weights, Tryz.underlying103, DataW.weightsEach, List.map_cons, List.map_nil, List.mem_append] at hw'
    obtain ⟨A, n, c, rfl, S, rfl, hS, hnS⟩ := open_pairs Tryz.underlying81 cells2 (by kernel_rfl) (fun n cs y h => trod_iv h) (show DataW.trod enc Tryz.prog w base spare held m 81 [u1] = some y1 from h1) (fun q hq => hw' q (by simp [hq]))
    obtain ⟨B, k, dd, rfl, D, rfl, hD, hnD⟩ := open_pairs Tryz.underlying81 cells2 (by kernel_rfl) (fun n cs y h => trod_iv h) (show DataW.trod enc Tryz.prog w base spare held m 81 [u2] = some y2 from h2) (fun q hq => hw' q (by simp [hq]))
    exact ⟨⟨P, A, c, S, B, dd, D⟩, rfl, ⟨rfl, rfl, hS, hD, hnS, hnD⟩⟩
theorem open_cals {fuel : Nat} {y : DataW H × List MemPlace} (h : DataW.trod enc Tryz.prog w base spare held fuel 22 [v] = some y) (hw : ∀ q ∈ y.1.weights Tryz.prog 22, q ≤ reachBytes) :
    ∃ A n c, v = .slice A n c ∧ ∃ l : List CalR, n = l.length ∧ IsCals w A c l := by
  obtain ⟨A, n, c, rfl, -, l, rfl, hl, hlen, -, hg⟩ := open_row_gen (en := encC) (k := 3) (fun _ => rfl) (by omega) Tryz.underlying22 cellsCal (of_decide_eq_true (by kernel_rfl)) (fun n cs y h hw => trod_cal h hw) h hw
  exact ⟨A, _, c, rfl, l, rfl, hl, hg, hlen⟩
theorem trod_struct6 {P : Program} {t : TypeId} {f0 f1 f2 f3 f4 f5 : Field} {fuel : Nat} {cs : List Value} {x : DataW H × List MemPlace} (ht : P.underlying t = some (.struct #[f0, f1, f2, f3, f4, f5])) (h : DataW.trod enc P w base spare held fuel t cs = some x) :
    ∃ y0 y1 y2 y3 y4 y5 n, x = (.agg [y0.1, y1.1, y2.1, y3.1, y4.1, y5.1], y0.2 ++ (y1.2 ++ (y2.2 ++ (y3.2 ++ (y4.2 ++ y5.2))))) ∧ cs.length = P.cellsOf t ∧ DataW.trod enc P w base spare held n f0.type ((cs.drop f0.offset).take (P.cellsOf f0.type)) = some y0 ∧
      DataW.trod enc P w base spare held n f1.type ((cs.drop f1.offset).take (P.cellsOf f1.type)) = some y1 ∧ DataW.trod enc P w base spare held n f2.type ((cs.drop f2.offset).take (P.cellsOf f2.type)) = some y2 ∧
      DataW.trod enc P w base spare held n f3.type ((cs.drop f3.offset).take (P.cellsOf f3.type)) = some y3 ∧ DataW.trod enc P w base spare held n f4.type ((cs.drop f4.offset).take (P.cellsOf f4.type)) = some y4 ∧ DataW.trod enc P w base spare held n f5.type ((cs.drop f5.offset).take (P.cellsOf f5.type)) = some y5 := by
  obtain ⟨xs, n, _, rfl, hl, hlen, hf⟩ := DataW.trod_struct ht h
  match xs, hlen with
  | [y0, y1, y2, y3, y4, y5], _ => exact ⟨y0, y1, y2, y3, y4, y5, n, by simp, hl, by simpa using hf 0 f0 rfl, by simpa using hf 1 f1 rfl, by simpa using hf 2 f2 rfl, by simpa using hf 3 f3 rfl, by simpa using hf 4 f4 rfl, by simpa using hf 5 f5 rfl⟩
set_option maxRecDepth 100000 in
theorem trod_job {n : Nat} {cs : List Value} {y : DataW H × List MemPlace} (h : DataW.trod enc Tryz.prog w base spare held n 87 cs = some y) (hw : ∀ q ∈ y.1.weights Tryz.prog 87, q ≤ reachBytes) : ∃ x : JobR, cs = encJ x ∧ (IsInts w x.A x.c x.ms ∧ x.ms.length < 4611686018427387904) := by
  obtain ⟨y0, y1, y2, y3, y4, y5, m, rfl, hl, h0, h1, h2, h3, h4, h5⟩ := trod_struct6 Tryz.underlying87 h
  rw [cellsJob] at hl
  match cs, hl with
  | [u0, u1, u2, u3, u4, u5], _ =>
    simp only [cells1, cellsSl2] at h0 h1 h2 h3 h4 h5
    obtain ⟨a1, e1, -, -⟩ := DataW.trod_int Tryz.underlying3 (show DataW.trod enc Tryz.prog w base spare held m 3 [u1] = some y1 from h1)
    obtain ⟨a2, e2, -, -⟩ := DataW.trod_int Tryz.underlying3 (show DataW.trod enc Tryz.prog w base spare held m 3 [u2] = some y2 from h2)
    obtain ⟨a3, e3, -, -⟩ := DataW.trod_int Tryz.underlying3 (show DataW.trod enc Tryz.prog w base spare held m 3 [u3] = some y3 from h3)
    obtain ⟨a4, e4, -, -⟩ := DataW.trod_int Tryz.underlying3 (show DataW.trod enc Tryz.prog w base spare held m 3 [u4] = some y4 from h4)
    obtain ⟨a5, e5, -, -⟩ := DataW.trod_int Tryz.underlying3 (show DataW.trod enc Tryz.prog w base spare held m 3 [u5] = some y5 from h5)
    simp at e1 e2 e3 e4 e5
    subst e1 e2 e3 e4 e5
    have hw' := hw
    simp only [DataW.weights, Tryz.underlying87, DataW.weightsEach, List.map_cons, List.map_nil, List.mem_append] at hw'
    obtain ⟨A, n, c, rfl, -, l, rfl, hA, hn⟩ := open_ints (show DataW.trod enc Tryz.prog w base spare held m 57 [u0] = some y0 from h0) (fun q hq => hw' q (by simp [hq]))
    exact ⟨⟨A, c, l, a1, a2, a3, a4, a5⟩, rfl, hA, hn⟩
theorem open_jobs {fuel : Nat} {y : DataW H × List MemPlace} (h : DataW.trod enc Tryz.prog w base spare held fuel 26 [v] = some y) (hw : ∀ q ∈ y.1.weights Tryz.prog 26, q ≤ reachBytes) :
    ∃ A n c, v = .slice A n c ∧ ∃ l : List JobR, n = l.length ∧ IsJobs w A c l := by
  obtain ⟨A, n, c, rfl, -, l, rfl, hl, hlen, -, hg⟩ := open_row_gen (en := encJ) (k := 6) (fun _ => rfl) (by omega) Tryz.underlying26 cellsJob (of_decide_eq_true (by kernel_rfl)) (fun n cs y h hw => trod_job h hw) h hw
  exact ⟨A, _, c, rfl, l, rfl, hl, hg, hlen⟩
set_option maxRecDepth 100000 in
theorem trod_slot {n : Nat} {cs : List Value} {y : DataW H × List MemPlace} (h : DataW.trod enc Tryz.prog w base spare held n 77 cs = some y) (hw : ∀ q ∈ y.1.weights Tryz.prog 77, q ≤ reachBytes) : ∃ x : SlotR, cs = encS x ∧ True := by
  obtain ⟨y0, y1, y2, y3, m, rfl, hl, h0, h1, h2, h3⟩ := trod_struct4 Tryz.underlying77 h
  rw [cellsSlot] at hl
  match cs, hl with
  | [u0, u1, u2, u3], _ =>
    simp only [cells1] at h0 h1 h2 h3
    obtain ⟨a0, e0, -, -⟩ := DataW.trod_int Tryz.underlying3 (show DataW.trod enc Tryz.prog w base spare held m 3 [u0] = some y0 from h0)
    obtain ⟨a1, e1, -, -⟩ := DataW.trod_int Tryz.underlying3 (show DataW.trod enc Tryz.prog w base spare held m 3 [u1] = some y1 from h1)
    obtain ⟨a2, e2, -, -⟩ := DataW.trod_int Tryz.underlying3 (show DataW.trod enc Tryz.prog w base spare held m 3 [u2] = some y2 from h2)
    obtain ⟨a3, e3, -, -⟩ := DataW.trod_int Tryz.underlying3 (show DataW.trod enc Tryz.prog w base spare held m 3 [u3] = some y3 from h3)
    simp at e0 e1 e2 e3
    subst e0 e1 e2 e3
    exact ⟨⟨a0, a1, a2, a3⟩, rfl, trivial⟩
set_option maxRecDepth 100000 in
theorem open_order (hv : Value.okWide Tryz.prog w r b0 57 v) (h : DataW.Trod enc Tryz.prog w base spare held 57 v d p) (hw : ∀ k ∈ d.weights Tryz.prog 57, k ≤ reachBytes) :
    ∃ A n c, v = .slice A n c ∧ n ≤ c ∧ ∃ l : List Int, n = l.length ∧ IsInts w A c l ∧ l.length < 4611686018427387904 := by
  obtain ⟨a0, len0, cap0, rfl⟩ := okWide_slice Tryz.underlying57 hv
  obtain ⟨fuel, hf⟩ := h
  exact open_ints (show DataW.trod enc Tryz.prog w base spare held fuel 57 [Value.slice a0 len0 cap0] = some (d, p) from hf) hw
end
end Go.Proofs.YtpaojgfmffkodaaGreat
