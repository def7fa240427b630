/- Layer 10 (plain): what Hull returns. -/
import Derived.Test.YticmfmcflikneaaHull3
namespace Go.Proofs.Yticmfmcflikneaa
open Go.RowKit
set_option linter.unusedVariables false

theorem far_bounds {l : List Pt} (h : l.any farB = false) : ∀ p ∈ l, (-8000 ≤ p.1 ∧ p.1 ≤ 8000) ∧ (-8000 ≤ p.2 ∧ p.2 ≤ 8000) := by
  intro p hp
  have := List.any_eq_false.1 h p hp
  unfold farB withinB at this
  rw [show wneg 8000 = -8000 from by unfold wneg wrap64; omega] at this
  simp only [Bool.not_eq_true', Bool.not_eq_false, Bool.and_eq_true, decide_eq_true_eq] at this
  omega
theorem far_of {p : Pt} (h : (-8000 ≤ p.1 ∧ p.1 ≤ 8000) ∧ (-8000 ≤ p.2 ∧ p.2 ≤ 8000)) : farB p = false := by
  unfold farB withinB
  rw [show wneg 8000 = -8000 from by unfold wneg wrap64; omega]
  simp; omega
def Flat (l : List Pt) : Prop := ∀ u ∈ l, ∀ v ∈ l, ∀ w ∈ l, det u v w = 0
def HullRes (l r : List Pt) (err : Int) : Prop :=
  (400 < l.length ∧ r = [] ∧ err = 9) ∨ (l.length ≤ 400 ∧ l.any farB = true ∧ r = [] ∧ err = 2) ∨ (l.length ≤ 400 ∧ l.any farB = false ∧ Flat l ∧ r = [] ∧ err = 11) ∨
  (l.length ≤ 400 ∧ l.any farB = false ∧ ∃ h, HullY l h ∧ ((160 < h.length ∧ r = [] ∧ err = 9) ∨ (h.length ≤ 160 ∧ r = h ∧ err = 0)))
theorem not_flat {l r : List Pt} (h : IsHull l r) : ¬ Flat l := fun hf => by
  obtain ⟨u, hu, v, hv, w, hw, hne⟩ := HullR.not_line h
  exact hne (hf u hu v hv w hw)
theorem HullRes.unique {l r r' : List Pt} {e e' : Int} (h : HullRes l r e) (h' : HullRes l r' e') : r = r' ∧ e = e' := by
  rcases h with ⟨a, rfl, rfl⟩ | ⟨a, b, rfl, rfl⟩ | ⟨a, b, c, rfl, rfl⟩ | ⟨a, b, x, hx, h⟩ <;> rcases h' with ⟨a', rfl, rfl⟩ | ⟨a', b', rfl, rfl⟩ | ⟨a', b', c', rfl, rfl⟩ | ⟨a', b', x', hx', h'⟩
  all_goals first
    | exact ⟨rfl, rfl⟩
    | (exfalso; omega)
    | (exfalso; rw [b] at b'; cases b'; done)
    | (exfalso; exact not_flat hx.hull c'; done)
    | (exfalso; exact not_flat hx'.hull c; done)
    | (have e := hx.unique hx'
       subst e
       rcases h with ⟨p1, rfl, rfl⟩ | ⟨p1, rfl, rfl⟩ <;> rcases h' with ⟨p2, rfl, rfl⟩ | ⟨p2, rfl, rfl⟩
       all_goals first
         | exact ⟨rfl, rfl⟩
         | (exfalso; omega))
def lowX (l : List Pt) : List Pt := lowC (xpts l)
def uppX (l : List Pt) : List Pt := lowC (xpts l).reverse
theorem hull_flat {l : List Pt} (hf : l.any farB = false) (h : (lowX l).length < 2 ∨ (lowX l).length + (uppX l).length - 2 < 3) : Flat l := by
  obtain ⟨hs, hm⟩ := xpts_strict l
  by_cases h2 : 2 ≤ (xpts l).length
  · obtain ⟨a, b, c⟩ := hull_or_line (M := 8000) (pts := xpts l) (fun q hq => (far_bounds hf q ((hm q).1 hq)).2) hs h2
    rcases c with ⟨c, -⟩ | ⟨-, c⟩
    · unfold lowX uppX at h; omega
    · exact fun u hu v hv w hw => c u ((hm u).2 hu) v ((hm v).2 hv) w ((hm w).2 hw)
  · intro u hu v hv w hw
    have one : ∀ p ∈ l, ∀ q ∈ l, p = q := fun p hp q hq => by
      have hp' := (hm p).2 hp
      have hq' := (hm q).2 hq
      match xpts l, h2, hp', hq' with
      | [], _, hp', _ => cases hp'
      | [x], _, hp', hq' => simp at hp' hq'; rw [hp', hq']
      | x :: y :: r, h2, _, _ => simp at h2
    rw [one u hu w hw, one v hv w hw]
    exact det_end w w
theorem hull_is {l : List Pt} (hf : l.any farB = false) (h1 : ¬ (lowX l).length < 2) (h2 : ¬ (lowX l).length + (uppX l).length - 2 < 3) : IsHull l ((lowX l).dropLast ++ (uppX l).dropLast) := by
  obtain ⟨hs, hm⟩ := xpts_strict l
  have h3 : 2 ≤ (xpts l).length := by
    rcases Nat.lt_or_ge (xpts l).length 2 with h | h
    · exfalso
      apply h1
      unfold lowX
      match xpts l, h with
      | [], _ => decide
      | [x], _ => simp [lowC, chainC, popC]
    · exact h
  obtain ⟨a, b, c⟩ := hull_or_line (M := 8000) (pts := xpts l) (fun q hq => (far_bounds hf q ((hm q).1 hq)).2) hs h3
  rcases c with ⟨-, c, -⟩ | ⟨c, -⟩
  · exact c.more (fun q hq => (hm q).2 hq) (fun v hv => (hm v).1 (c.sub v hv))
  · unfold lowX uppX at h2; omega
/-- A point ahead of another one by Y and X. -/
theorem vcmp_lexy (p q : Pt) : vcmp p.1 p.2 q.1 q.2 < 0 ↔ lexy p q := by
  unfold lexy
  rcases vcmp_cases p.1 p.2 q.1 q.2 with ⟨h, e⟩ | ⟨h, e⟩ | ⟨h1, h2, e⟩ <;> rw [e] <;> constructor <;> intro k <;> omega
theorem turn_det {a b c : Pt} (ha : farB a = false) (hb : farB b = false) (hc : farB c = false) : turnI a.1 a.2 b.1 b.2 c.1 c.2 = cmpi (det a b c) 0 := by
  have h1 := far_bounds (l := [a, b, c]) (by simp [ha, hb, hc])
  have a1 := h1 a (by simp)
  have b1 := h1 b (by simp)
  have c1 := h1 c (by simp)
  unfold near29 at *
  exact turn_exact ⟨by omega, by omega⟩ ⟨by omega, by omega⟩ ⟨by omega, by omega⟩ ⟨by omega, by omega⟩ ⟨by omega, by omega⟩ ⟨by omega, by omega⟩
theorem cmpi_pos (x : Int) : 0 < cmpi x 0 ↔ 0 < x := by rcases cmpi_cases x 0 with ⟨h, e⟩ | ⟨h1, h2, e⟩ | ⟨h1, h2, e⟩ <;> rw [e] <;> omega
theorem cmpi_le (x : Int) : cmpi x 0 ≤ 0 ↔ x ≤ 0 := by rcases cmpi_cases x 0 with ⟨h, e⟩ | ⟨h1, h2, e⟩ | ⟨h1, h2, e⟩ <;> rw [e] <;> omega
theorem cmpi_lt (x : Int) : cmpi x 0 < 0 ↔ x < 0 := by rcases cmpi_cases x 0 with ⟨h, e⟩ | ⟨h1, h2, e⟩ | ⟨h1, h2, e⟩ <;> rw [e] <;> omega
theorem cmpi_eq0 (x : Int) : cmpi x 0 = 0 ↔ x = 0 := by rcases cmpi_cases x 0 with ⟨h, e⟩ | ⟨h1, h2, e⟩ | ⟨h1, h2, e⟩ <;> rw [e] <;> omega
end Go.Proofs.Yticmfmcflikneaa
