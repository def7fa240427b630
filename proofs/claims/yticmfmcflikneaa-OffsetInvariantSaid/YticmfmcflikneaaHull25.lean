/- Layer 10 (plain): what Convex and Where say of a hull; a hull has no vertex twice. -/
import Derived.Test.YticmfmcflikneaaHull18
import Derived.Test.YticmfmcflikneaaHull23
namespace Go.Proofs.Yticmfmcflikneaa
open Go.RowKit Go.Sort
set_option linter.unusedVariables false

theorem nodup_le {α : Type} [DecidableEq α] : ∀ {l m : List α}, l.Nodup → (∀ x ∈ l, x ∈ m) → l.length ≤ m.length
  | [], _, _, _ => Nat.zero_le _
  | a :: l, m, h, hs => by
    obtain ⟨h1, h2⟩ := List.nodup_cons.1 h
    have ha := hs a (by simp)
    have h3 : ∀ x ∈ l, x ∈ m.erase a := fun x hx => by
      have hne : x ≠ a := fun e => h1 (e ▸ hx)
      exact (List.mem_erase_of_ne hne).2 (hs x (List.mem_cons_of_mem _ hx))
    have h4 := nodup_le h2 h3
    have h5 := List.length_erase_of_mem ha
    have h6 : 0 < m.length := List.length_pos_of_mem ha
    simp only [List.length_cons]
    omega
/-- All turns of a ring are left turns, towards each other vertex. -/
def ConvexI (r : List Pt) : Prop := ∀ i, i < r.length → ∀ k, k < r.length → k ≠ i → k ≠ (i + 1) % r.length → 0 < det (at0 r i) (rv r (i + 1)) (at0 r k)
theorem ConvexI.ne {r : List Pt} (h : ConvexI r) (h3 : 3 ≤ r.length) {i k : Nat} (hi : i < r.length) (hk : k < r.length) (hne : k ≠ i) : at0 r k ≠ at0 r i := fun e => by
  by_cases h1 : k = (i + 1) % r.length
  · obtain ⟨m, hm, h2, h4⟩ : ∃ m, m < r.length ∧ m ≠ i ∧ m ≠ k := by
      by_cases a0 : 0 ≠ i ∧ 0 ≠ k
      · exact ⟨0, by omega, a0.1, a0.2⟩
      · by_cases a1 : 1 ≠ i ∧ 1 ≠ k
        · exact ⟨1, by omega, a1.1, a1.2⟩
        · exact ⟨2, by omega, by omega, by omega⟩
    have := h i hi m hm h2 (by rw [← h1]; exact h4)
    unfold rv at this
    rw [← h1, e, det_same] at this
    omega
  · have := h i hi k hk hne h1
    rw [e, det_self] at this
    omega
theorem ConvexI.nodup {r : List Pt} (h : ConvexI r) (h3 : 3 ≤ r.length) : r.Nodup := by
  rw [List.nodup_iff_pairwise_ne, List.pairwise_iff_getElem]
  intro i j hi hj hij e
  have := h.ne h3 hj hi (by omega)
  rw [at0_eq hi, at0_eq hj] at this
  exact this e
theorem IsHull.cv {l r : List Pt} (h : IsHull l r) : ConvexI r := fun i hi k hk h1 h2 => h.convex i k hi hk h1 h2
theorem IsHull.len_le {l r : List Pt} (h : IsHull l r) : r.length ≤ l.length := nodup_le (h.cv.nodup h.three) h.sub
theorem far_false {l : List Pt} (h : l.any farB = false) {p : Pt} (hp : p ∈ l) : farB p = false := by
  have := List.any_eq_false.1 h p hp
  simpa using this
theorem far_sub {l m : List Pt} (h : l.any farB = false) (hs : ∀ p ∈ m, p ∈ l) : m.any farB = false :=
  List.any_eq_false.2 fun p hp => by rw [far_false h (hs p hp)]; decide
theorem turnP_pos {a b c : Pt} (ha : farB a = false) (hb : farB b = false) (hc : farB c = false) : 0 < turnP a b c ↔ 0 < det a b c := by
  unfold turnP; rw [turn_det ha hb hc]; exact cmpi_pos _
theorem turnP_neg {a b c : Pt} (ha : farB a = false) (hb : farB b = false) (hc : farB c = false) : turnP a b c < 0 ↔ det a b c < 0 := by
  unfold turnP; rw [turn_det ha hb hc]; exact cmpi_lt _
theorem rv_lt {r : List Pt} {i : Nat} (h : 0 < r.length) : (i % r.length) < r.length := Nat.mod_lt _ h
theorem convexB_iff {r : List Pt} : convexB r = true ↔ 3 ≤ r.length ∧ r.length ≤ 160 ∧ r.any farB = false ∧ ConvexI r := by
  unfold convexB
  simp only [Bool.and_eq_true, decide_eq_true_eq, Bool.not_eq_true']
  constructor
  · rintro ⟨⟨⟨h3, h160⟩, hf⟩, he⟩
    refine ⟨h3, h160, hf, fun i hi k hk h1 h2 => ?_⟩
    unfold edgesOk at he
    have h4 := List.all_eq_true.1 he i (by simp; omega)
    unfold edgeOk at h4
    have h5 := List.all_eq_true.1 h4 k (by simp; omega)
    unfold okT at h5
    simp only [Bool.or_eq_true, decide_eq_true_eq] at h5
    rcases h5 with (h5 | h5) | h5
    · exact absurd h5 h1
    · exact absurd h5 h2
    · exact (turnP_pos (far_false hf (at0_mem hi)) (far_false hf (at0_mem (rv_lt (by omega)))) (far_false hf (at0_mem hk))).1 h5
  · rintro ⟨h3, h160, hf, hc⟩
    refine ⟨⟨⟨h3, h160⟩, hf⟩, ?_⟩
    unfold edgesOk
    refine List.all_eq_true.2 fun i hi => ?_
    simp at hi
    unfold edgeOk
    refine List.all_eq_true.2 fun k hk => ?_
    simp at hk
    unfold okT
    simp only [Bool.or_eq_true, decide_eq_true_eq]
    by_cases h1 : k = i
    · exact .inl (.inl h1)
    · by_cases h2 : k = (i + 1) % r.length
      · exact .inl (.inr h2)
      · exact .inr ((turnP_pos (far_false hf (at0_mem hi)) (far_false hf (at0_mem (rv_lt (by omega)))) (far_false hf (at0_mem hk))).2 (hc i hi k hk h1 h2))
theorem hull_convexB {l r : List Pt} (hf : l.any farB = false) (h : IsHull l r) (h160 : r.length ≤ 160) : convexB r = true :=
  convexB_iff.2 ⟨h.three, h160, far_sub hf h.sub, h.cv⟩
theorem whereL_zero (r : List Pt) (p : Pt) : ∀ (l : List Nat) (out : Int), out ≠ 0 → (whereL r p l out = 0 ↔ ∃ i ∈ l, sideP (vat r i) (vat r ((i + 1) % r.length)) p < 0)
  | [], out, h => by simp [whereL, h]
  | i :: l, out, h => by
    unfold whereL
    split
    · rename_i h1
      exact ⟨fun _ => ⟨i, by simp, h1⟩, fun _ => rfl⟩
    · rename_i h1
      rw [whereL_zero r p l _ (by split <;> omega)]
      constructor
      · rintro ⟨j, hj, h2⟩
        exact ⟨j, List.mem_cons_of_mem _ hj, h2⟩
      · rintro ⟨j, hj, h2⟩
        rcases List.mem_cons.1 hj with rfl | hj
        · exact absurd h2 h1
        · exact ⟨j, hj, h2⟩
theorem whereL_two (r : List Pt) (p : Pt) : ∀ (l : List Nat) (out : Int), (whereL r p l out = 2 ↔ out = 2 ∧ (∀ i ∈ l, 0 < sideP (vat r i) (vat r ((i + 1) % r.length)) p) ∨ l = [] ∧ out = 2)
  | [], out => by simp [whereL]
  | i :: l, out => by
    unfold whereL
    split
    · rename_i h1
      constructor
      · intro h; omega
      · rintro (⟨_, h⟩ | ⟨h, _⟩)
        · have := h i (by simp); omega
        · cases h
    · rename_i h1
      rw [whereL_two r p l _]
      by_cases h0 : sideP (vat r i) (vat r ((i + 1) % r.length)) p = 0
      · rw [if_pos h0]
        constructor
        · rintro (⟨h, _⟩ | ⟨_, h⟩) <;> omega
        · rintro (⟨_, h⟩ | ⟨h, _⟩)
          · have := h i (by simp); omega
          · cases h
      · rw [if_neg h0]
        constructor
        · rintro (⟨h, h2⟩ | ⟨h2, h⟩)
          · refine .inl ⟨h, fun j hj => ?_⟩
            rcases List.mem_cons.1 hj with rfl | hj
            · omega
            · exact h2 j hj
          · subst h2
            refine .inl ⟨h, fun j hj => ?_⟩
            have : j = i := by simpa using hj
            subst this; omega
        · rintro (⟨h, h2⟩ | ⟨h2, _⟩)
          · exact .inl ⟨h, fun j hj => h2 j (List.mem_cons_of_mem _ hj)⟩
          · cases h2
theorem where_out {r : List Pt} (hc : convexB r = true) (p : Pt) : whereV r p ≠ 0 ↔ farB p = false ∧ ∀ i, i < r.length → 0 ≤ det (at0 r i) (rv r (i + 1)) p := by
  obtain ⟨h3, -, hf, -⟩ := convexB_iff.1 hc
  unfold whereV
  rw [if_pos hc, Ne, whereL_zero r p _ _ (by omega)]
  cases hp : farB p
  · constructor
    · intro h
      refine ⟨rfl, fun i hi => ?_⟩
      rcases Int.lt_or_le (det (at0 r i) (rv r (i + 1)) p) 0 with h1 | h1
      · exfalso
        refine h ⟨i, by simp; omega, ?_⟩
        unfold sideP
        rw [hp]
        exact (turnP_neg (far_false hf (at0_mem hi)) (far_false hf (at0_mem (rv_lt (by omega)))) hp).2 h1
      · exact h1
    · rintro ⟨-, h⟩ ⟨i, hi, h1⟩
      simp at hi
      unfold sideP at h1
      rw [hp] at h1
      have := (turnP_neg (far_false hf (at0_mem hi)) (far_false hf (at0_mem (rv_lt (i := i + 1) (by omega)))) hp).1 h1
      have := h i hi
      unfold rv at this
      omega
  · constructor
    · intro h
      exfalso
      refine h ⟨0, by simp; omega, ?_⟩
      unfold sideP
      rw [hp, if_pos rfl]
      decide
    · rintro ⟨h, -⟩; cases h
theorem where_in {r : List Pt} (hc : convexB r = true) (p : Pt) : whereV r p = 2 ↔ farB p = false ∧ ∀ i, i < r.length → 0 < det (at0 r i) (rv r (i + 1)) p := by
  obtain ⟨h3, -, hf, -⟩ := convexB_iff.1 hc
  unfold whereV
  rw [if_pos hc, whereL_two r p]
  have hne : List.range' 0 r.length ≠ [] := by
    intro h
    have := congrArg List.length h
    rw [List.length_range', List.length_nil] at this
    omega
  cases hp : farB p
  · constructor
    · rintro (⟨-, h⟩ | ⟨h, -⟩)
      · refine ⟨rfl, fun i hi => ?_⟩
        have h1 := h i (by simp; omega)
        unfold sideP at h1
        rw [hp] at h1
        exact (turnP_pos (far_false hf (at0_mem hi)) (far_false hf (at0_mem (rv_lt (i := i + 1) (by omega)))) hp).1 h1
      · exact absurd h hne
    · rintro ⟨-, h⟩
      refine .inl ⟨rfl, fun i hi => ?_⟩
      simp at hi
      unfold sideP
      rw [hp]
      exact (turnP_pos (far_false hf (at0_mem hi)) (far_false hf (at0_mem (rv_lt (by omega)))) hp).2 (h i hi)
  · constructor
    · rintro (⟨-, h⟩ | ⟨h, -⟩)
      · have h1 := h 0 (by simp; omega)
        unfold sideP at h1
        rw [hp, if_pos rfl] at h1
        omega
      · exact absurd h hne
    · rintro ⟨h, -⟩; cases h
/-- No point of a list lies outside of its hull. -/
theorem hull_where {l r : List Pt} (hf : l.any farB = false) (h : IsHull l r) (h160 : r.length ≤ 160) {p : Pt} (hp : p ∈ l) : whereV r p ≠ 0 :=
  (where_out (hull_convexB hf h h160) p).2 ⟨far_false hf hp, fun i hi => h.left i hi p hp⟩
/-- A small list has a hull of at most 30 vertices, or all its points are collinear. -/
theorem HullRes.small {l r : List Pt} {e : Int} (h : HullRes l r e) (hs : smallB l = true) : (e = 11 ∧ r = [] ∧ Flat l) ∨ (e = 0 ∧ HullY l r ∧ r.length ≤ l.length) := by
  unfold smallB at hs
  simp only [Bool.and_eq_true, Bool.not_eq_true', decide_eq_true_eq] at hs
  obtain ⟨h1, h2⟩ := hs
  rcases h with ⟨a, _, _⟩ | ⟨a, b, _, _⟩ | ⟨a, b, c, rfl, rfl⟩ | ⟨a, b, x, hx, h⟩
  · omega
  · rw [h1] at b; cases b
  · exact .inl ⟨rfl, rfl, c⟩
  · have := hx.hull.len_le
    rcases h with ⟨p1, rfl, rfl⟩ | ⟨p1, rfl, rfl⟩
    · omega
    · exact .inr ⟨rfl, hx, this⟩
end Go.Proofs.Yticmfmcflikneaa
