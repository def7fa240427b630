/- Layer 46 (plain): sorting indices by a key, those with equal keys in their own order. -/
import Derived.Test.YtkpnffokjpgalaaGreatKSl
import Derived.Sort.WalkA
namespace Go.Proofs.YtkpnffokjpgalaaGreat
set_option linter.unusedVariables false
set_option linter.unusedSimpArgs false
open Go.Sort

/-- What the program compares: a greater key comes first. -/
def ltE (E : Int → Int) (x y : Pt) : Bool := decide (E y.1 < E x.1)
/-- What a stable sort leaves: of equal keys, the lesser index comes first. -/
def ltT (E : Int → Int) (x y : Pt) : Bool := decide (E y.1 < E x.1 ∨ E x.1 = E y.1 ∧ x.1 < y.1)
def anyP (x : Pt) : Prop := True
theorem ordT (E : Int → Int) : OrdOn anyP (ltT E) := by
  refine ⟨fun x y _ _ h => ?_, fun x y z _ _ _ h1 h2 => ?_⟩
  · unfold ltT at *
    simp only [decide_eq_true_eq, decide_eq_false_iff_not] at *
    omega
  · unfold ltT at *
    simp only [decide_eq_false_iff_not] at *
    omega
theorem ltE_T {E : Int → Int} {x y : Pt} (h : x.1 < y.1) : ltE E y x = ltT E y x := by
  unfold ltE ltT
  rw [decide_eq_decide]
  omega
/-- All that stands ahead of a place is less than all that stands behind it. -/
def SepAt (l : List Pt) (p : Nat) : Prop := ∀ i j, i < p → p ≤ j → j < l.length → (at0 l i).1 < (at0 l j).1
/-- The same for two ranges. -/
def SepIn (l : List Pt) (a m b : Nat) : Prop := ∀ i j, a ≤ i → i < m → m ≤ j → j < b → (at0 l i).1 < (at0 l j).1
theorem SepAt.inn {l : List Pt} {a m b : Nat} (h : SepAt l m) (hb : b ≤ l.length) : SepIn l a m b := fun i j h1 h2 h3 h4 => h i j h2 h3 (by omega)
theorem SepAt.re {l l' : List Pt} {a b p : Nat} (h : SepAt l p) (hr : Re l l' a b) (hp : p ≤ a ∨ b ≤ p) (hb : b ≤ l.length) : SepAt l' p := by
  intro i j h1 h2 h3
  rw [hr.len] at h3
  have ei : ∃ i', i' < p ∧ at0 l' i = at0 l i' := by
    by_cases c : a ≤ i ∧ i < b
    · obtain ⟨i', q1, q2, e⟩ := hr.inn i c.1 c.2
      exact ⟨i', by omega, e⟩
    · exact ⟨i, h1, hr.out i (by omega)⟩
  have ej : ∃ j', p ≤ j' ∧ j' < l.length ∧ at0 l' j = at0 l j' := by
    by_cases c : a ≤ j ∧ j < b
    · obtain ⟨j', q1, q2, e⟩ := hr.inn j c.1 c.2
      exact ⟨j', by omega, by omega, e⟩
    · exact ⟨j, h2, h3, hr.out j (by omega)⟩
  obtain ⟨i', i1, e1⟩ := ei
  obtain ⟨j', j1, j2, e2⟩ := ej
  rw [e1, e2]
  exact h i' j' i1 j1 j2
theorem SepAt.past {l : List Pt} {p : Nat} (h : l.length ≤ p) : SepAt l p := fun i j h1 h2 h3 => absurd h3 (by omega)
theorem SepIn.left {l l1 : List Pt} {a m b i e mid : Nat} (h : SepIn l a m b) (hR : Rot l l1 i m e) (h1 : i ≤ m) (h2 : i ≤ mid) (h3 : mid + m = i + e) (h4 : e ≤ b) (h5 : m ≤ e) : SepIn l1 a i mid := by
  intro x y q1 q2 q3 q4
  rw [hR x, hR y, if_pos (by omega), if_neg (by omega), if_pos (by omega)]
  exact h x _ q1 (by omega) (by omega) (by omega)
theorem SepIn.right {l l1 : List Pt} {a m b i e mid : Nat} (h : SepIn l a m b) (hR : Rot l l1 i m e) (h0 : a ≤ i) (h1 : i ≤ m) (h2 : i ≤ mid) (h3 : mid + m = i + e) (h4 : e ≤ b) (h5 : m ≤ e) : SepIn l1 mid e b := by
  intro x y q1 q2 q3 q4
  rw [hR x, hR y, if_pos (show y < i ∨ e ≤ y by omega)]
  rw [if_neg (by omega), if_neg (by omega)]
  exact h _ y (by omega) (by omega) (by omega) q4
theorem SepIn.re {l l' : List Pt} {a m b c d : Nat} (h : SepIn l a m b) (hr : Re l l' c d) (hd : d ≤ a) : SepIn l' a m b := by
  intro i j h1 h2 h3 h4
  rw [hr.out i (by omega), hr.out j (by omega)]
  exact h i j h1 h2 h3 h4
/-- The indices of a list that ascends strictly. -/
def Asc (l : List Pt) : Prop := ∀ i j, i < j → j < l.length → (at0 l i).1 < (at0 l j).1
theorem Asc.sep {l : List Pt} (h : Asc l) (p : Nat) : SepAt l p := fun i j h1 h2 h3 => h i j (by omega) h3
end Go.Proofs.YtkpnffokjpgalaaGreat
