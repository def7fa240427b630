/- Layer 46: covered of the reference. -/
import Derived.Test.YtkpnffokjpgalaaKJnt24
import Derived.Test.YtkpnffokjpgalaaKJntQ1
namespace Go.Proofs.Ytkpnffokjpgalaa
set_option linter.unusedVariables false
set_option linter.unusedSimpArgs false
open Go.RowKit Go.Sort
attribute [local go_sem ↓] Go.wp_at_zero Go.wp_at_succ

theorem any_dropG {α : Type} (p : α → Bool) {l : List α} {k : Nat} (h : k < l.length) : (l.drop k).any p = (p l[k] || (l.drop (k + 1)).any p) := by
  rw [List.drop_eq_getElem_cons h, List.any_cons]
end Go.Proofs.Ytkpnffokjpgalaa
/- Layer 46: owned rows whose elements are written. -/
namespace Go.Proofs.Ytkpnffokjpgalaa
set_option linter.unusedVariables false
set_option linter.unusedSimpArgs false
open Go.RowKit Go.Sort

theorem Owns.at0 {α : Type} {enc : α → List Value} {k base : Nat} {e : TypeId} {w : World} {A : Option Addr} {c : Nat} {l : List α} (h : Owns enc k base e w A c l) (hn : 0 < l.length) : ∃ g, A = some ⟨g, 0, none⟩ ∧ base ≤ g ∧ g < w.heap.size := by
  obtain ⟨g, cap, hv, hb, hlt⟩ := World.ownsRow.form h hn
  simp only [Value.slice.injEq, true_and] at hv
  exact ⟨g, hv.1, hb, hlt⟩
theorem Owns.setAt {α : Type} {enc : α → List Value} {k base : Nat} {e : TypeId} {w : World} {c g : Nat} {l : List α} (hk : ∀ x, (enc x).length = k) (hk0 : 0 < k) (h : Owns enc k base e w (some ⟨g, 0, none⟩) c l) (i : Nat) (hi : i < l.length) (j : Nat) (hj : j < k) (u : Value) (y : α) (hy : enc y = (enc l[i]).set j u) :
    Owns enc k base e (w.setCell ⟨g, i * k + j, none⟩ u) (some ⟨g, 0, none⟩) c (l.set i y) := by
  obtain ⟨h1, -⟩ := World.ownsRow.stored h (i * k + j) u
  unfold Owns
  rw [List.length_set]
  have e1 : (l.flatMap enc).set (i * k + j) u = (l.set i y).flatMap enc := by
    apply List.ext_getElem?
    intro m
    by_cases hm : m < l.length * k
    · have hq : m / k < l.length := Nat.div_lt_of_lt_mul (by rw [Nat.mul_comm]; exact hm)
      have hr : m % k < k := Nat.mod_lt _ hk0
      have hb := flat_get hk (l.set i y) (m / k) (by rw [List.length_set]; exact hq) (m % k) hr
      have ha := flat_get hk l (m / k) hq (m % k) hr
      rw [Nat.div_add_mod'] at ha hb
      rw [hb, List.getElem?_set]
      by_cases e : i * k + j = m
      · have d1 : m / k = i := by rw [← e, Nat.mul_comm, Nat.mul_add_div hk0, Nat.div_eq_of_lt hj, Nat.add_zero]
        have d2 : m % k = j := by rw [← e, Nat.mul_comm, Nat.mul_add_mod, Nat.mod_eq_of_lt hj]
        rw [if_pos e, if_pos (by rw [flat_length hk, e]; exact hm)]
        simp only [d1, d2, List.getElem_set_self, hy, List.getElem?_set]
        simp [hk, hj]
      · rw [if_neg e, ha]
        by_cases e4 : m / k = i
        · have e5 : ¬ j = m % k := fun e5 => e (by rw [e5, ← e4, Nat.div_add_mod'])
          simp only [e4, List.getElem_set_self, hy, List.getElem?_set]
          rw [if_neg e5]
        · rw [List.getElem_set_ne (by omega)]
    · rw [List.getElem?_eq_none (by rw [List.length_set, flat_length hk]; omega), List.getElem?_eq_none (by rw [flat_length hk, List.length_set]; omega)]
  rw [← e1]; exact h1
/-- The last segment's end is written. -/
theorem Owns.setEnd {base : Nat} {w : World} {g c : Nat} {l : List SegP} {a b : Pt} (h : OwnSegs base w (some ⟨g, 0, none⟩) c (l ++ [(a, b)])) (x y : Int) :
    OwnSegs base ((w.setCell ⟨g, l.length * 4 + 2, none⟩ (.int .i64 x)).setCell ⟨g, l.length * 4 + 3, none⟩ (.int .i64 y)) (some ⟨g, 0, none⟩) c (l ++ [(a, (x, y))]) := by
  have hl : l.length < (l ++ [(a, b)]).length := by simp
  have h1 := Owns.setAt encE_len (by omega) h l.length hl 2 (by omega) (.int .i64 x) (a, (x, b.2)) (by simp [encE])
  have h2 := Owns.setAt encE_len (by omega) h1 l.length (by simp) 3 (by omega) (.int .i64 y) (a, (x, y)) (by simp [encE])
  simpa using h2
theorem Owns.free0 {α : Type} {enc : α → List Value} {k base : Nat} {e : TypeId} {w : World} {g c : Nat} {l : List α} (h : Owns enc k base e w (some ⟨g, 0, none⟩) c l) (j : Nat) : w.frozen? ⟨g, j, none⟩ = false := World.ownsRow.frozenAt h j
theorem IsRow.setOther {α : Type} {enc : α → List Value} {k : Nat} {w : World} {A : Option Addr} {c : Nat} {l : List α} (h : IsRow enc k w A c l) (g j : Nat) (u : Value) (hne : ∀ b, blockOf A = some b → b ≠ g) : IsRow enc k (w.setCell ⟨g, j, none⟩ u) A c l := by
  refine ⟨h.1, ?_⟩
  rcases h.2 with h | ⟨b, off, rfl, hr⟩
  · exact .inl h
  · refine .inr ⟨b, off, rfl, fun i hi t v hv => ?_, ?_⟩
    · have hb := hne b rfl
      rw [World.cell?_setCell_other _ _ _ _ (by intro e; injection e with e1; exact hb e1.symm)]
      exact hr.cells i hi t v hv
    · have := hr.there; exact inferInstance
end Go.Proofs.Ytkpnffokjpgalaa
/- Layer 46: Once of the reference. -/
namespace Go.Proofs.Ytkpnffokjpgalaa
set_option linter.unusedVariables false
set_option linter.unusedSimpArgs false
open Go.RowKit Go.Sort
attribute [local go_sem ↓] Go.wp_at_zero Go.wp_at_succ

theorem IsRings.takeX {w : World} {A : Option Addr} {c : Nat} {X : List RgR} (h : IsRings w A c X) (n : Nat) : IsRings w A c (X.take n) :=
  ⟨h.row.take n, fun x hx => h.all x (List.mem_of_mem_take hx), by have := h.len; rw [List.length_take]; omega⟩
theorem vxs_take (X : List RgR) (n : Nat) : vxs (X.take n) = (vxs X).take n := by unfold vxs; rw [List.map_take]
/-- What Once answers. -/
def OnceE (w : World) (o : List SegP × Int) (e : Ending) (w' : World) : Prop := ∃ A' c', e = .returned (.tuple #[.slice A' o.1.length c', .int .i64 o.2]) ∧ OwnSegs w.heap.size w' A' c' o.1 ∧ o.1.length ≤ 40000000 ∧ SinceOf w w'
end Go.Proofs.Ytkpnffokjpgalaa
