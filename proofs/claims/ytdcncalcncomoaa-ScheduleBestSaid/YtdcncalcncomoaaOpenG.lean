/- Opening slices of elements of any encoding that came in. -/
import Derived.Test.YtdcncalcncomoaaRows
import Derived.Test.YtdcncalcncomoaaSl
import Derived.OpenShut
import Derived.ChangeOld
import Derived.Lib.SmallJoins
import Derived.Deep.Slices
import Derived.Deep.Fields
import Derived.SizedLaws
namespace Go.Proofs.Ytdcncalcncomoaa
open Go.ChangeShapes Go.WideShapes Go.ChangeAt Go.RowKit Go.Joins
set_option linter.unusedVariables false
section
variable {H : Type} {enc : TypeId × Value → H} {P : Program} {w : World} {base : Nat} {spare : Nat → Bool} {held : Bool} {r : Reach} {b0 : Nat} {v : Value} {d : DataW H} {p : List MemPlace}
theorem mem_weightsAll {e : TypeId} {d : DataW H} : ∀ {ds : List (DataW H)}, d ∈ ds → ∀ q ∈ d.weights P e, q ∈ DataW.weightsAll P e ds
  | [], hm, _, _ => by cases hm
  | d0 :: ds, hm, q, hq => by
    rw [DataW.weightsAll, List.mem_append]
    rcases List.mem_cons.1 hm with rfl | hm
    · exact .inl hq
    · exact .inr (mem_weightsAll hm q hq)
theorem open_row_gen {α : Type} {en : α → List Value} {k : Nat} {Good : α → Prop} {t e : TypeId} {fuel : Nat} {y : DataW H × List MemPlace} (hk : ∀ x, (en x).length = k) (hk0 : 0 < k) (ht : P.underlying t = some (.slice e)) (hc : P.cellsOf e = k) (hby : 1 ≤ P.bytesOf e)
    (hel : ∀ (n : Nat) (cs : List Value) (y : DataW H × List MemPlace), DataW.trod enc P w base spare held n e cs = some y → (∀ q ∈ y.1.weights P e, q ≤ reachBytes) → ∃ x : α, cs = en x ∧ Good x)
    (h : DataW.trod enc P w base spare held fuel t [v] = some y) (hw : ∀ q ∈ y.1.weights P t, q ≤ reachBytes) :
    ∃ A n c, v = .slice A n c ∧ n ≤ c ∧ ∃ l : List α, n = l.length ∧ IsRow en k w A c l ∧ l.length < 4611686018427387904 ∧ l.length * P.bytesOf e ≤ 140737488355328 ∧ ∀ x ∈ l, Good x := by
  rcases Go.Deep.open_slice ht h with ⟨hcs, hx⟩ | ⟨a, len0, cap0, m, n, D, Pl, hcs, hb, hl, hm, hmm, hx, hi⟩
  · obtain rfl : v = .slice none 0 0 := by simpa using hcs
    exact ⟨none, 0, 0, rfl, Nat.le_refl _, [], rfl, IsRow.nil _ _ _, by simp, by simp, by simp⟩
  · obtain rfl : v = .slice (some a) len0 cap0 := by simpa using hcs
    subst hx
    have hbytes : len0 * P.bytesOf e ≤ reachBytes := by
      have := hw _ (by simp only [DataW.weights, ht]; exact List.mem_cons_self)
      simp only [List.length_map, List.length_range] at this
      have h2 : len0 * P.bytesOf e ≤ (len0 + (m - len0)) * P.bytesOf e := Nat.mul_le_mul_right _ (by omega)
      omega
    have hr : reachBytes < 2 ^ 47 := reachBytes_lt
    have hlen : len0 < 4611686018427387904 := by
      have h1 : len0 * 1 ≤ len0 * P.bytesOf e := Nat.mul_le_mul_left _ hby
      omega
    refine ⟨some a, len0, cap0, rfl, hl, ?_⟩
    have hlm : len0 ≤ m := by rw [hmm]; split <;> omega
    by_cases h0 : len0 = 0
    · subst h0
      exact ⟨[], rfl, ⟨(fun h => by cases h), .inl rfl⟩, by simp, by simp, by simp⟩
    · have one : ∀ i, i < len0 → ∃ x : α, Good x ∧ ∀ j u, (en x)[j]? = some u → w.cell? (a.add (i * k + j)) = some u := by
        intro i hlt
        obtain ⟨cs', hc', ht'⟩ := hi i (by omega)
        rw [hc] at hc'
        obtain ⟨_, hcl, hat⟩ := World.cells?_some hc'
        obtain ⟨x, rfl, hg⟩ := hel _ _ _ ht' (fun q hq => hw q (by
          simp only [DataW.weights, ht]
          exact List.mem_cons_of_mem _ (List.mem_append_left _ (mem_weightsAll (List.mem_map.2 ⟨i, by simpa using hlt, rfl⟩) q hq))))
        refine ⟨x, hg, fun j u hu => ?_⟩
        have hj : j < k := by
          have := (List.getElem?_eq_some_iff.1 hu).1
          rwa [hk] at this
        have := hat j hj
        rw [Go.Deep.add_add] at this
        rw [this, hu]
      obtain ⟨x0, hx0⟩ := one 0 (by omega)
      have each : ∀ i, ∃ x : α, i < len0 → Good x ∧ ∀ j u, (en x)[j]? = some u → w.cell? (a.add (i * k + j)) = some u := by
        intro i
        by_cases hlt : i < len0
        · obtain ⟨x, hx⟩ := one i hlt
          exact ⟨x, fun _ => hx⟩
        · exact ⟨x0, fun h => absurd h hlt⟩
      obtain ⟨f, hf⟩ : ∃ f : Nat → α, ∀ i, i < len0 → Good (f i) ∧ ∀ j u, (en (f i))[j]? = some u → w.cell? (a.add (i * k + j)) = some u :=
        ⟨fun i => Classical.choose (each i), fun i => Classical.choose_spec (each i)⟩
      obtain ⟨g, off, spot⟩ := a
      obtain ⟨u0, hu0⟩ : ∃ u, (en (f 0))[0]? = some u := ⟨_, List.getElem?_eq_getElem (by rw [hk]; exact hk0)⟩
      have c0 := (hf 0 (by omega)).2 0 u0 hu0
      have hspot : spot = none := by simpa [Addr.add] using World.cell?_spot c0
      subst hspot
      refine ⟨(List.range len0).map f, by simp, ⟨(fun h => by cases h), .inr ⟨g, off, rfl, ⟨fun i hi2 j u hu => ?_, ?_⟩⟩⟩, by simpa using hlen, by simp only [List.length_map, List.length_range]; omega, ?_⟩
      · have hlt : i < len0 := by simpa using hi2
        simp only [List.getElem_map, List.getElem_range] at hu
        have := (hf i hlt).2 j u hu
        rw [add_none] at this
        rw [Nat.add_assoc]
        exact this
      · rw [add_none] at c0
        exact ⟨⟨by rcases Nat.lt_or_ge g w.heap.size with h | h
                   · exact h
                   · simp [World.cell?, Array.getElem?_eq_none h] at c0⟩⟩
      · intro x hx
        obtain ⟨i, hi, rfl⟩ := List.mem_map.1 hx
        exact (hf i (by simpa using hi)).1
end
end Go.Proofs.Ytdcncalcncomoaa
