/- The hull of ascending points out of two chains; its first vertex; points on a line. No program here. -/
import Derived.Test.YticmfmcflikneaaHullP4
namespace Go.Proofs.Yticmfmcflikneaa
set_option linter.unusedVariables false

def lexlt (p q : Pt) : Prop := p.1 < q.1 ∨ p.1 = q.1 ∧ p.2 < q.2
theorem lexlt.ne {p q : Pt} (h : lexlt p q) : p ≠ q := by rintro rfl; rcases h with h | ⟨_, h⟩ <;> omega
theorem lin_lex {M : Int} {p q : Pt} (hp : -M ≤ p.2 ∧ p.2 ≤ M) (hq : -M ≤ q.2 ∧ q.2 ≤ M) (h : lexlt p q) : lin (2 * M + 1) 1 p < lin (2 * M + 1) 1 q := by
  unfold lin
  rcases h with h | ⟨h1, h2⟩
  · have m := Int.mul_le_mul_of_nonneg_left (show 1 ≤ q.1 - p.1 by omega) (show 0 ≤ 2 * M + 1 by omega)
    rw [Int.mul_sub] at m
    omega
  · rw [h1]; omega
theorem lin_neg (k l : Int) (q : Pt) : lin (-k) (-l) q = -lin k l q := by unfold lin; grind
theorem chain_of {k l : Int} {p : Pt} {rest : List Pt} (h : (p :: rest).Pairwise (fun x y => lin k l x < lin k l y)) :
    Chain k l (p :: rest) (chainC [] (p :: rest)).reverse ∧ at0 (chainC [] (p :: rest)).reverse 0 = p ∧ at0 (chainC [] (p :: rest)).reverse ((chainC [] (p :: rest)).reverse.length - 1) = ((p :: rest).getLast (by simp)) ∧ 1 ≤ (chainC [] (p :: rest)).length := by
  have e : chainC [] (p :: rest) = chainC [p] rest := rfl
  rw [e]
  have h0 : StackC k l [p] [p] := ⟨fun q hq => hq, trivial, trivial, trivial, fun z hz q hq => by simp at hz hq; subst hz; subst hq; exact Int.le_refl _⟩
  obtain ⟨h1, h2, h3⟩ := chain_inv h0 (fun q hq => by simp at hq; subst hq; exact Int.le_refl _) (fun q hq _ => by simpa using hq) h
  have hne : chainC [p] rest ≠ [] := by intro e; rw [e] at h2; simp at h2
  have hl : 0 < (chainC [p] rest).length := List.length_pos_iff.2 hne
  refine ⟨(h1.perm (seen' := p :: rest) fun q => by simp [or_comm]).chain, ?_, ?_, hl⟩
  · rw [at0_reverse hl, at0_eq (by omega)]
    rw [List.getLast?_eq_getElem?] at h2
    rw [List.getElem?_eq_getElem (by omega)] at h2
    simpa using h2
  · rw [at0_reverse (by simp; omega), at0_eq (by omega)]
    rw [List.head?_eq_getElem?, List.getElem?_eq_getElem hl, List.getLast?_eq_some_getLast (by simp)] at h3
    simpa using h3
/-- The two chains of ascending points. -/
def lowC (pts : List Pt) : List Pt := (chainC [] pts).reverse
theorem hull_or_line {M : Int} {pts : List Pt} (hM : ∀ q ∈ pts, -M ≤ q.2 ∧ q.2 ≤ M) (hs : pts.Pairwise lexlt) (h2 : 2 ≤ pts.length) :
    2 ≤ (lowC pts).length ∧ 2 ≤ (lowC pts.reverse).length ∧
    ((3 ≤ (lowC pts).length - 1 + ((lowC pts.reverse).length - 1) ∧ IsHull pts ((lowC pts).dropLast ++ (lowC pts.reverse).dropLast) ∧ at0 ((lowC pts).dropLast ++ (lowC pts.reverse).dropLast) 0 = at0 pts 0) ∨
     ((lowC pts).length - 1 + ((lowC pts.reverse).length - 1) < 3 ∧ ∀ u ∈ pts, ∀ v ∈ pts, ∀ w ∈ pts, det u v w = 0)) := by
  have hpw : pts.Pairwise (fun x y => lin (2 * M + 1) 1 x < lin (2 * M + 1) 1 y) := by
    refine List.Pairwise.imp_of_mem ?_ hs
    intro a b ha hb hab
    exact lin_lex (hM a ha) (hM b hb) hab
  have hpr : pts.reverse.Pairwise (fun x y => lin (-(2 * M + 1)) (-1) x < lin (-(2 * M + 1)) (-1) y) := by
    rw [List.pairwise_reverse]
    refine hpw.imp ?_
    intro a b hab
    rw [lin_neg, lin_neg]; omega
  generalize 2 * M + 1 = K at *
  obtain ⟨a, rest, rfl⟩ : ∃ a rest, pts = a :: rest := by
    cases pts with
    | nil => simp at h2
    | cons a rest => exact ⟨a, rest, rfl⟩
  obtain ⟨b, rest', hr⟩ : ∃ b rest', (a :: rest).reverse = b :: rest' := by
    cases h : (a :: rest).reverse with
    | nil => simp at h
    | cons b rest' => exact ⟨b, rest', rfl⟩
  have hlast : (a :: rest).getLast (by simp) = b := by
    have := congrArg List.head? hr
    rw [List.head?_reverse, List.getLast?_eq_some_getLast (by simp)] at this
    simpa using this
  have hlast' : (b :: rest').getLast (by simp) = a := by
    have := congrArg List.getLast? hr
    rw [List.getLast?_reverse] at this
    rw [List.getLast?_eq_some_getLast (by simp)] at this
    simp at this
    exact this.symm
  have hmem : ∀ q, q ∈ a :: rest ↔ q ∈ b :: rest' := fun q => by rw [← hr, List.mem_reverse]
  obtain ⟨c1, s1, e1, l1⟩ := chain_of hpw
  rw [hlast] at e1
  rw [hr] at hpr ⊢
  obtain ⟨c2, s2, e2, l2⟩ := chain_of hpr
  rw [hlast'] at e2
  have hab : lin K 1 a < lin K 1 b := by
    have hb : b ∈ rest := by
      rw [← hlast]
      cases rest with
      | nil => simp at h2
      | cons x r => rw [List.getLast_cons (by simp)]; exact List.getLast_mem _
    exact (List.pairwise_cons.1 hpw).1 b hb
  have hne : a ≠ b := by rintro rfl; omega
  have c2' : Chain (-K) (-1) (a :: rest) (lowC (b :: rest')) := ⟨c2.asc, c2.strict, fun i hi q hq => c2.left i hi q ((hmem q).1 hq), fun q hq => (hmem q).2 (c2.sub q hq)⟩
  have g1 : 2 ≤ (lowC (a :: rest)).length := by
    have hl : (lowC (a :: rest)).length = (chainC [] (a :: rest)).length := by unfold lowC; simp
    rcases Nat.lt_or_ge 1 (lowC (a :: rest)).length with h | h
    · exact h
    · exfalso
      have hz : (chainC [] (a :: rest)).reverse.length - 1 = 0 := by simp; omega
      rw [hz, s1] at e1
      exact hne e1
  have g2 : 2 ≤ (lowC (b :: rest')).length := by
    have hl : (lowC (b :: rest')).length = (chainC [] (b :: rest')).length := by unfold lowC; simp
    rcases Nat.lt_or_ge 1 (lowC (b :: rest')).length with h | h
    · exact h
    · exfalso
      have hz : (chainC [] (b :: rest')).reverse.length - 1 = 0 := by simp; omega
      rw [hz, s2] at e2
      exact hne e2.symm
  refine ⟨g1, g2, ?_⟩
  rcases Nat.lt_or_ge ((lowC (a :: rest)).length - 1 + ((lowC (b :: rest')).length - 1)) 3 with h3 | h3
  · right
    refine ⟨h3, ?_⟩
    have z1 : (lowC (a :: rest)).length = 2 := by omega
    have z2 : (lowC (b :: rest')).length = 2 := by omega
    have t1 : at0 (lowC (a :: rest)) 1 = b := by
      have : (chainC [] (a :: rest)).reverse.length - 1 = 1 := by unfold lowC at z1; rw [z1]
      rw [this] at e1; exact e1
    have t2 : at0 (lowC (b :: rest')) 1 = a := by
      have : (chainC [] (b :: rest')).reverse.length - 1 = 1 := by unfold lowC at z2; rw [z2]
      rw [this] at e2; exact e2
    have hz : ∀ q ∈ a :: rest, det a b q = 0 := by
      intro q hq
      have k1 := c1.left 0 (by show 0 + 1 < (lowC (a :: rest)).length; omega) q hq
      have k2 := c2'.left 0 (by omega) q hq
      rw [s1, show at0 (chainC [] (a :: rest)).reverse (0 + 1) = b from t1] at k1
      rw [show at0 (lowC (b :: rest')) 0 = b from s2, show at0 (lowC (b :: rest')) (0 + 1) = a from t2] at k2
      have := det_swap a b q
      omega
    intro u hu v hv w hw
    exact line_all hab (hz u hu) (hz v hv) (hz w hw)
  · left
    refine ⟨h3, hull_ring (k := K) (l := 1) c1 c2' g1 g2 ?_ ?_ h3, ?_⟩
    · exact s2.trans e1.symm
    · exact e2.trans s1.symm
    · have hl : 0 < (lowC (a :: rest)).dropLast.length := by simp; omega
      have : at0 ((lowC (a :: rest)).dropLast ++ (lowC (b :: rest')).dropLast) 0 = at0 (lowC (a :: rest)) 0 := by
        rw [at0_eq (by simp; omega), at0_eq (by omega), List.getElem_append_left hl, List.getElem_dropLast]
      rw [this]
      exact s1
/-- A hull and its first vertex. -/
structure HullR (pts r : List Pt) : Prop where
  hull : IsHull pts r
  first : ∀ q ∈ pts, q = at0 r 0 ∨ lexlt (at0 r 0) q
theorem lexlt.asymm {p q : Pt} (h : lexlt p q) (h' : lexlt q p) : False := by unfold lexlt at *; omega
theorem HullR.unique {pts r s : List Pt} (h : HullR pts r) (h' : HullR pts s) : r = s := by
  refine h.hull.unique h'.hull ?_
  have hr := h.hull.three
  have hs := h'.hull.three
  rcases h.first _ (h'.hull.sub _ (at0_mem (i := 0) (by omega))) with e | h1
  · exact e.symm
  · rcases h'.first _ (h.hull.sub _ (at0_mem (i := 0) (by omega))) with e | h2
    · exact e
    · exact (h1.asymm h2).elim
theorem HullR.not_line {pts r : List Pt} (h : IsHull pts r) : ∃ u ∈ pts, ∃ v ∈ pts, ∃ w ∈ pts, det u v w ≠ 0 := by
  have h3 := h.three
  obtain ⟨j, hj, -, hc, -, -⟩ := h.corner (i := 0) (by omega)
  exact ⟨at0 r j, h.sub _ (at0_mem hj), at0 r 0, h.sub _ (at0_mem (i := 0) (by omega)), rv r (0 + 1), h.sub _ (at0_mem (Nat.mod_lt _ (by omega))), by omega⟩
end Go.Proofs.Yticmfmcflikneaa
