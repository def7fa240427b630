/- Opening rings, lists of rings, segments and lists of segments that came in. -/
import Derived.Test.YtkpnffokjpgalaaGreatKFrame
import Derived.Test.YtkpnffokjpgalaaGreatKMink7
import Derived.Test.YtkpnffokjpgalaaGreatKSeg2
import Derived.OpenShut
import Derived.ChangeOld
import Derived.Lib.SmallJoins
import Derived.Deep.Slices
import Derived.Deep.Fields
import Derived.SizedLaws
namespace Go.Proofs.YtkpnffokjpgalaaGreat
set_option linter.unusedVariables false
set_option linter.unusedSimpArgs false
open Go.ChangeShapes Go.WideShapes Go.ChangeAt Go.RowKit Go.Joins
section
variable {H : Type} {enc : TypeId × Value → H} {P : Program} {w : World} {base : Nat} {spare : Nat → Bool} {held : Bool} {r : Reach} {b0 : Nat} {v : Value} {d : DataW H} {p : List MemPlace}
theorem mem_weightsAll {e : TypeId} {d : DataW H} : ∀ {ds : List (DataW H)}, d ∈ ds → ∀ q ∈ d.weights P e, q ∈ DataW.weightsAll P e ds
  | [], hm, _, _ => by cases hm
  | d0 :: ds, hm, q, hq => by
    rw [DataW.weightsAll, List.mem_append]
    rcases List.mem_cons.1 hm with rfl | hm
    · exact .inl hq
    · exact .inr (mem_weightsAll hm q hq)
theorem open_row_gen {α : Type} {en : α → List Value} {k : Nat} {Good : α → Prop} {t e : TypeId} {fuel : Nat} {y : DataW H × List MemPlace} (hk : ∀ x, (en x).length = k) (hk0 : 0 < k) (ht : P.underlying t = some (.slice e)) (hc : P.cellsOf e = k) (hby : 1 ≤ P.bytesOf e)
    (hel : ∀ (n : Nat) (cs : List Value) (y : DataW H × List MemPlace), DataW.trod enc P w base spare held n e cs = some y → (∀ q ∈ y.1.weights P e, q ≤ reachBytes) → ∃ x : α, cs = en x ∧ Good x)
    (h : DataW.trod enc P w base spare held fuel t [v] = some y) (hw : ∀ q ∈ y.1.weights P t, q ≤ reachBytes) :
    ∃ A n c, v = .slice A n c ∧ n ≤ c ∧ ∃ l : List α, n = l.length ∧ IsRow en k w A c l ∧ l.length < 4611686018427387904 ∧ l.length * P.bytesOf e ≤ 140737488355328 ∧ ∀ x ∈ l, Good x := by
  rcases Go.Deep.open_slice ht h with ⟨hcs, hx⟩ | ⟨a, len0, cap0, m, n, D, Pl, hcs, hb, hl, hm, hmm, hx, hi⟩
  · obtain rfl : v = .slice none 0 0 := by simpa using hcs
    exact ⟨none, 0, 0, rfl, Nat.le_refl _, [], rfl, IsRow.nil _ _ _, by simp, by simp, by simp⟩
  · obtain rfl : v = .slice (some a) len0 cap0 := by simpa using hcs
    subst hx
    have hbytes : len0 * P.bytesOf e ≤ reachBytes := by
      have := hw _ (by simp only [DataW.weights, ht]; exact List.mem_cons_self)
      simp only [List.length_map, List.length_range] at this
      have h2 : len0 * P.bytesOf e ≤ (len0 + (m - len0)) * P.bytesOf e := Nat.mul_le_mul_right _ (by omega)
      omega
    have hr : reachBytes < 2 ^ 47 := reachBytes_lt
    have hlen : len0 < 4611686018427387904 := by
      have h1 : len0 * 1 ≤ len0 * P.bytesOf e := Nat.mul_le_mul_left _ hby
      omega
    refine ⟨some a, len0, cap0, rfl, hl, ?_⟩
    have hlm : len0 ≤ m := by rw [hmm]; split <;> omega
    by_cases h0 : len0 = 0
    · subst h0
      exact ⟨[], rfl, ⟨(fun h => by cases h), .inl rfl⟩, by simp, by simp, by simp⟩
    · have one : ∀ i, i < len0 → ∃ x : α, Good x ∧ ∀ j u, (en x)[j]? = some u → w.cell? (a.add (i * k + j)) = some u := by
        intro i hlt
        obtain ⟨cs', hc', ht'⟩ := hi i (by omega)
        rw [hc] at hc'
        obtain ⟨_, hcl, hat⟩ := World.cells?_some hc'
        obtain ⟨x, rfl, hg⟩ := hel _ _ _ ht' (fun q hq => hw q (by
          simp only [DataW.weights, ht]
          exact List.mem_cons_of_mem _ (List.mem_append_left _ (mem_weightsAll (List.mem_map.2 ⟨i, by simpa using hlt, rfl⟩) q hq))))
        refine ⟨x, hg, fun j u hu => ?_⟩
        have hj : j < k := by
          have := (List.getElem?_eq_some_iff.1 hu).1
          rwa [hk] at this
        have := hat j hj
        rw [Go.Deep.add_add] at this
        rw [this, hu]
      obtain ⟨x0, hx0⟩ := one 0 (by omega)
      have each : ∀ i, ∃ x : α, i < len0 → Good x ∧ ∀ j u, (en x)[j]? = some u → w.cell? (a.add (i * k + j)) = some u := by
        intro i
        by_cases hlt : i < len0
        · obtain ⟨x, hx⟩ := one i hlt
          exact ⟨x, fun _ => hx⟩
        · exact ⟨x0, fun h => absurd h hlt⟩
      obtain ⟨f, hf⟩ : ∃ f : Nat → α, ∀ i, i < len0 → Good (f i) ∧ ∀ j u, (en (f i))[j]? = some u → w.cell? (a.add (i * k + j)) = some u :=
        ⟨fun i => Classical.choose (each i), fun i => Classical.choose_spec (each i)⟩
      obtain ⟨g, off, spot⟩ := a
      obtain ⟨u0, hu0⟩ : ∃ u, (en (f 0))[0]? = some u := ⟨_, List.getElem?_eq_getElem (by rw [hk]; exact hk0)⟩
      have c0 := (hf 0 (by omega)).2 0 u0 hu0
      have hspot : spot = none := by simpa [Addr.add] using World.cell?_spot c0
      subst hspot
      refine ⟨(List.range len0).map f, by simp, ⟨(fun h => by cases h), .inr ⟨g, off, rfl, ⟨fun i hi2 j u hu => ?_, ?_⟩⟩⟩, by simpa using hlen, by simp only [List.length_map, List.length_range]; omega, ?_⟩
      · have hlt : i < len0 := by simpa using hi2
        simp only [List.getElem_map, List.getElem_range] at hu
        have := (hf i hlt).2 j u hu
        rw [add_none] at this
        rw [Nat.add_assoc]
        exact this
      · rw [add_none] at c0
        exact ⟨⟨by rcases Nat.lt_or_ge g w.heap.size with h | h
                   · exact h
                   · simp [World.cell?, Array.getElem?_eq_none h] at c0⟩⟩
      · intro x hx
        obtain ⟨i, hi, rfl⟩ := List.mem_map.1 hx
        exact (hf i (by simpa using hi)).1
end
end Go.Proofs.YtkpnffokjpgalaaGreat
/- Opening slices of vectors that came in, with the bound of their length. -/
namespace Go.Proofs.YtkpnffokjpgalaaGreat
set_option linter.unusedVariables false
set_option linter.unusedSimpArgs false
open Go.ChangeShapes Go.WideShapes Go.ChangeAt Go.RowKit
set_option maxRecDepth 100000
section
variable {H : Type} {enc : TypeId × Value → H} {w : World} {base : Nat} {spare : Nat → Bool} {held : Bool} {r : Reach} {b0 : Nat} {v : Value} {d : DataW H} {p : List MemPlace}
theorem bytesVec : Tryz.prog.bytesOf 25 = 16 := by kernel_rfl
theorem vec_el (n : Nat) (cs : List Value) (y : DataW H × List MemPlace) (h : DataW.trod enc Tryz.prog w base spare held n 25 cs = some y) : ∃ x : Int × Int, cs = encV x ∧ True := by
  obtain ⟨y0, y1, n', hx, hcl, h0, h1⟩ := trod_struct2 Tryz.underlying25 h
  obtain ⟨a, e0, -, -⟩ := DataW.trod_int Tryz.underlying3 h0
  obtain ⟨b, e1, -, -⟩ := DataW.trod_int Tryz.underlying3 h1
  have c1 : Tryz.prog.cellsOf 3 = 1 := by kernel_rfl
  have hl : cs.length = 2 := hcl.trans cellsVec
  match cs, hl with
  | [u0, u1], _ =>
    simp [c1] at e0 e1
    subst e0 e1
    exact ⟨(a, b), rfl, trivial⟩
theorem open_vecsB {fuel : Nat} {y : DataW H × List MemPlace} {t : TypeId} (ht : Tryz.prog.underlying t = some (.slice 25)) (h : DataW.trod enc Tryz.prog w base spare held fuel t [v] = some y) (hw : ∀ q ∈ y.1.weights Tryz.prog t, q ≤ reachBytes) :
    ∃ A n c, v = .slice A n c ∧ n ≤ c ∧ ∃ l : List (Int × Int), n = l.length ∧ IsVecs w A c l ∧ l.length < 4611686018427387904 := by
  obtain ⟨A, n, c, e, hnc, l, hl, hr, hll, -, -⟩ := open_row_gen (en := encV) (k := 2) (Good := fun _ => True) encV_len (by decide) ht cellsVec (by rw [bytesVec]; decide) (fun n cs y h _ => vec_el n cs y h) h hw
  exact ⟨A, n, c, e, hnc, l, hl, hr, hll⟩
theorem open_vecsL (hv : Value.okWide Tryz.prog w r b0 22 v) (h : DataW.Trod enc Tryz.prog w base spare held 22 v d p) (hw : ∀ q ∈ d.weights Tryz.prog 22, q ≤ reachBytes) :
    ∃ A n c, v = .slice A n c ∧ n ≤ c ∧ ∃ l : List (Int × Int), n = l.length ∧ IsVecs w A c l ∧ l.length < 4611686018427387904 := by
  obtain ⟨a0, len0, cap0, rfl⟩ := okWide_slice Tryz.underlying22 hv
  obtain ⟨fuel, hf⟩ := h
  exact open_vecsB Tryz.underlying22 (show DataW.trod enc Tryz.prog w base spare held fuel 22 [Value.slice a0 len0 cap0] = some (d, p) from hf) hw
end
end Go.Proofs.YtkpnffokjpgalaaGreat
/- Opening rings that came in. -/
namespace Go.Proofs.YtkpnffokjpgalaaGreat
set_option linter.unusedVariables false
set_option linter.unusedSimpArgs false
open Go.ChangeShapes Go.WideShapes Go.ChangeAt Go.RowKit
set_option maxRecDepth 100000
section
variable {H : Type} {enc : TypeId × Value → H} {w : World} {base : Nat} {spare : Nat → Bool} {held : Bool} {r : Reach} {b0 : Nat} {v : Value} {d : DataW H} {p : List MemPlace}
theorem open_ringL (hv : Value.okWide Tryz.prog w r b0 23 v) (h : DataW.Trod enc Tryz.prog w base spare held 23 v d p) (hw : ∀ q ∈ d.weights Tryz.prog 23, q ≤ reachBytes) :
    ∃ A n c, v = .slice A n c ∧ n ≤ c ∧ ∃ l : List (Int × Int), n = l.length ∧ IsVecs w A c l ∧ l.length < 4611686018427387904 := by
  obtain ⟨a0, len0, cap0, rfl⟩ := okWide_slice Tryz.underlying23 hv
  obtain ⟨fuel, hf⟩ := h
  exact open_vecsB Tryz.underlying23 (show DataW.trod enc Tryz.prog w base spare held fuel 23 [Value.slice a0 len0 cap0] = some (d, p) from hf) hw
end
end Go.Proofs.YtkpnffokjpgalaaGreat

namespace Go.Proofs.YtkpnffokjpgalaaGreat
set_option linter.unusedVariables false
set_option linter.unusedSimpArgs false
open Go.ChangeShapes Go.WideShapes Go.ChangeAt Go.RowKit
set_option maxRecDepth 100000
section
variable {H : Type} {enc : TypeId × Value → H} {w : World} {base : Nat} {spare : Nat → Bool} {held : Bool} {r : Reach} {b0 : Nat} {v : Value} {d : DataW H} {p : List MemPlace}
theorem cellsRing : Tryz.prog.cellsOf 23 = 1 := by kernel_rfl
theorem bytesRing : Tryz.prog.bytesOf 23 = 24 := by kernel_rfl
theorem trod_ring {n : Nat} {cs : List Value} {y : DataW H × List MemPlace} (h : DataW.trod enc Tryz.prog w base spare held n 23 cs = some y) (hw : ∀ q ∈ y.1.weights Tryz.prog 23, q ≤ reachBytes) : ∃ x : RgR, cs = encG x ∧ IsRing w x := by
  obtain ⟨v, rfl⟩ : ∃ v, cs = [v] := by
    rcases DataW.trod_slice Tryz.underlying23 h with ⟨rfl, -⟩ | ⟨a, len, cap, elems, rest, n, -, rfl, -⟩ <;> exact ⟨_, rfl⟩
  obtain ⟨A, n, c, rfl, hc, l, rfl, hl, hlen⟩ := open_vecsB Tryz.underlying23 h hw
  exact ⟨⟨A, c, l⟩, rfl, hl, hlen, hc⟩
theorem open_rings_of {t : TypeId} (ht : Tryz.prog.underlying t = some (.slice 23)) (hv : Value.okWide Tryz.prog w r b0 t v) (h : DataW.Trod enc Tryz.prog w base spare held t v d p) (hw : ∀ q ∈ d.weights Tryz.prog t, q ≤ reachBytes) :
    ∃ A n c, v = .slice A n c ∧ n ≤ c ∧ ∃ X : List RgR, n = X.length ∧ IsRings w A c X := by
  obtain ⟨a0, len0, cap0, rfl⟩ := okWide_slice ht hv
  obtain ⟨fuel, hf⟩ := h
  obtain ⟨A, n, c, e, hc, l, rfl, hl, hlen, -, hg⟩ := open_row_gen (en := encG) (k := 1) (fun _ => rfl) (by omega) ht cellsRing (by rw [bytesRing]; decide) (fun n cs y h hw => trod_ring h hw) (show DataW.trod enc Tryz.prog w base spare held fuel t [Value.slice a0 len0 cap0] = some (d, p) from hf) hw
  exact ⟨A, _, c, e, hc, l, rfl, hl, hg, hlen⟩
theorem open_rings (hv : Value.okWide Tryz.prog w r b0 37 v) (h : DataW.Trod enc Tryz.prog w base spare held 37 v d p) (hw : ∀ q ∈ d.weights Tryz.prog 37, q ≤ reachBytes) :
    ∃ A n c, v = .slice A n c ∧ ∃ X : List RgR, n = X.length ∧ IsRings w A c X := by
  obtain ⟨A, n, c, e, -, X, hn, hX⟩ := open_rings_of Tryz.underlying37 hv h hw
  exact ⟨A, n, c, e, X, hn, hX⟩
end
end Go.Proofs.YtkpnffokjpgalaaGreat

namespace Go.Proofs.YtkpnffokjpgalaaGreat
set_option linter.unusedVariables false
set_option linter.unusedSimpArgs false
open Go.ChangeShapes Go.WideShapes Go.ChangeAt Go.RowKit
set_option maxRecDepth 100000
section
variable {H : Type} {enc : TypeId × Value → H} {w : World} {base : Nat} {spare : Nat → Bool} {held : Bool} {r : Reach} {b0 : Nat} {v : Value} {d : DataW H} {p : List MemPlace}
theorem open_seg (hv : Value.okWide Tryz.prog w r b0 27 v) : ∃ a b c e, v = .agg #[.int .i64 a, .int .i64 b, .int .i64 c, .int .i64 e] := by
  obtain ⟨l, hl, rfl⟩ := agg_ints (ts := [3, 3, 3, 3]) (n := 4) (.inl ⟨_, Tryz.underlying27⟩) (by kernel_rfl) (by simp) (by kernel_rfl) hv
  match l, hl with
  | [a, b, c, e], _ => exact ⟨a, b, c, e, rfl⟩
theorem cellsSeg : Tryz.prog.cellsOf 27 = 4 := by kernel_rfl
theorem bytesSeg : Tryz.prog.bytesOf 27 = 32 := by kernel_rfl
theorem seg_el (n : Nat) (cs : List Value) (y : DataW H × List MemPlace) (h : DataW.trod enc Tryz.prog w base spare held n 27 cs = some y) : ∃ x : SegP, cs = encE x ∧ True := by
  obtain ⟨y0, y1, n', hx, hcl, h0, h1⟩ := trod_struct2 Tryz.underlying27 h
  obtain ⟨p, e0, -⟩ := vec_el _ _ _ h0
  obtain ⟨q, e1, -⟩ := vec_el _ _ _ h1
  have hl : cs.length = 4 := hcl.trans cellsSeg
  match cs, hl with
  | [u0, u1, u2, u3], _ =>
    rw [cellsVec] at e0 e1
    simp [encV] at e0 e1
    obtain ⟨rfl, rfl⟩ := e0
    obtain ⟨rfl, rfl⟩ := e1
    exact ⟨(p, q), rfl, trivial⟩
theorem open_segsL (hv : Value.okWide Tryz.prog w r b0 30 v) (h : DataW.Trod enc Tryz.prog w base spare held 30 v d p) (hw : ∀ q ∈ d.weights Tryz.prog 30, q ≤ reachBytes) :
    ∃ A n c, v = .slice A n c ∧ n ≤ c ∧ ∃ l : List SegP, n = l.length ∧ IsSegs w A c l ∧ l.length < 4611686018427387904 := by
  obtain ⟨a0, len0, cap0, rfl⟩ := okWide_slice Tryz.underlying30 hv
  obtain ⟨fuel, hf⟩ := h
  obtain ⟨A, n, c, e, hnc, l, hl, hr, hll, -, -⟩ := open_row_gen (en := encE) (k := 4) (Good := fun _ => True) encE_len (by decide) Tryz.underlying30 cellsSeg (by rw [bytesSeg]; decide) (fun n cs y h _ => seg_el n cs y h) (show DataW.trod enc Tryz.prog w base spare held fuel 30 [Value.slice a0 len0 cap0] = some (d, p) from hf) hw
  exact ⟨A, n, c, e, hnc, l, hl, hr, hll⟩
end
end Go.Proofs.YtkpnffokjpgalaaGreat
