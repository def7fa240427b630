/- Layer 16: what a set without an error says of its rings; where the moved polygon and the fixed one have a vertex in common. -/
import Derived.Test.YtbienlhofkfdpaaNof19
namespace Go.Proofs.Ytbienlhofkfdpaa
open Go.RowKit Go.Sort
set_option linter.unusedVariables false
set_option linter.unusedSimpArgs false

theorem NegV.valid {r : List Pt} {o : List Pt × Int} (h : NegV r o) (h0 : o.2 = 0) : validB r = true := by
  cases q : validB r
  · unfold NegV at h
    rw [if_neg (by rw [q]; simp)] at h
    rw [h] at h0
    cases h0
  · rfl
theorem SumV.valid {r s : List Pt} {o : List Pt × Int} (h : SumV r s o) (h0 : o.2 = 0) : validB r = true ∧ validB s = true := by
  by_cases q : validB r = true ∧ validB s = true
  · exact q
  · unfold SumV at h
    rw [if_neg q] at h
    rw [h] at h0
    cases h0
theorem NegP.valid : ∀ {ms acc : List (List Pt)} {out : List (List Pt) × Int}, NegP ms acc out → out.2 = 0 → (∀ s ∈ ms, validB s = true) ∧ ms.length + acc.length = out.1.length
  | [], acc, out, h, h0 => by
    rw [show out = (acc, 0) from h]
    exact ⟨fun s hs => by (cases hs), by simp⟩
  | x :: xs, acc, out, ⟨o, h1, h2⟩, h0 => by
    by_cases q : o.2 = 0
    · rw [if_pos q] at h2
      obtain ⟨a, b⟩ := NegP.valid h2 h0
      refine ⟨fun s hs => ?_, by simp at b ⊢; omega⟩
      rcases List.mem_cons.1 hs with rfl | hs
      · exact h1.valid q
      · exact a s hs
    · rw [if_neg q] at h2
      rw [h2] at h0
      exact absurd h0 q
theorem AllP.valid : ∀ {ps : List (List Pt × List Pt)} {acc : List (List Pt)} {out : List (List Pt) × Int}, AllP ps acc out → out.2 = 0 → ∀ p ∈ ps, validB p.1 = true ∧ validB p.2 = true
  | [], acc, out, h, h0 => fun p hp => by cases hp
  | (x, y) :: ps, acc, out, ⟨o, h1, h2⟩, h0 => by
    by_cases q : o.2 = 0
    · rw [if_pos q] at h2
      have a := AllP.valid h2 h0
      intro p hp
      rcases List.mem_cons.1 hp with rfl | hp
      · exact h1.valid q
      · exact a p hp
    · rw [if_neg q] at h2
      rw [h2] at h0
      exact absurd h0 q
theorem AllP.len : ∀ {ps : List (List Pt × List Pt)} {acc : List (List Pt)} {out : List (List Pt) × Int}, AllP ps acc out → out.2 = 0 → out.1.length = acc.length + ps.length
  | [], acc, out, h, h0 => by rw [show out = (acc, 0) from h]; simp
  | (x, y) :: ps, acc, out, ⟨o, h1, h2⟩, h0 => by
    by_cases q : o.2 = 0
    · rw [if_pos q] at h2
      have a := AllP.len h2 h0
      simp at a ⊢
      omega
    · rw [if_neg q] at h2
      rw [h2] at h0
      exact absurd h0 q
/-- A set that was made and that is not empty: its rings were valid. -/
theorem OfV.valid {fs ms : List (List Pt)} {out : List (List Pt) × Int} (h : OfV fs ms out) (h0 : out.2 = 0) (hne : out.1 ≠ []) : fs.length * ms.length ≤ 10000 ∧ (∀ r ∈ fs, validB r = true) ∧ (∀ s ∈ ms, validB s = true) := by
  unfold OfV at h
  by_cases q : 10000 < fs.length * ms.length
  · rw [if_pos q] at h
    rw [h] at h0
    cases h0
  · rw [if_neg q] at h
    obtain ⟨n, h1, h2⟩ := h
    by_cases q2 : n.2 = 0
    · rw [if_pos q2] at h2
      obtain ⟨a, b⟩ := h1.valid q2
      have c := h2.valid h0
      have d := h2.len h0
      rw [pairsOf_len] at d
      have hn : n.1 ≠ [] := fun e => by
        rw [e] at d
        exact hne (List.eq_nil_of_length_eq_zero (by simpa using d))
      refine ⟨by omega, fun r hr => ?_, a⟩
      obtain ⟨t, ht⟩ := List.exists_mem_of_ne_nil _ hn
      exact (c (r, t) (mem_pairsOf.2 ⟨hr, ht⟩)).1
    · rw [if_neg q2] at h2
      rw [h2] at h0
      exact absurd h0 q2
theorem AllP.short : ∀ {ps : List (List Pt × List Pt)} {acc : List (List Pt)} {out : List (List Pt) × Int}, AllP ps acc out → out.2 = 0 → (∀ u ∈ acc, u.length ≤ 160) → ∀ u ∈ out.1, u.length ≤ 160
  | [], acc, out, h, h0, ha => by rw [show out = (acc, 0) from h]; exact ha
  | (x, y) :: ps, acc, out, ⟨o, h1, h2⟩, h0, ha => by
    by_cases q : o.2 = 0
    · rw [if_pos q] at h2
      refine AllP.short h2 h0 fun u hu => ?_
      rcases List.mem_append.1 hu with hu | hu
      · exact ha u hu
      · rw [List.mem_singleton.1 hu]
        exact (h1.ok q).1.1.2.1
    · rw [if_neg q] at h2
      rw [h2] at h0
      exact absurd h0 q
theorem OfV.short {fs ms : List (List Pt)} {out : List (List Pt) × Int} (h : OfV fs ms out) (h0 : out.2 = 0) : ∀ u ∈ out.1, u.length ≤ 160 := by
  unfold OfV at h
  split at h
  · rw [h] at h0; cases h0
  · obtain ⟨n, h1, h2⟩ := h
    split at h2
    · exact h2.short h0 (fun u hu => by cases hu)
    · rename_i q; rw [h2] at h0; exact absurd h0 q
theorem where_leI {P u : List Pt} (H : IsHull P u) (hu : Conv15 u) {o : Pt} (ho : near 8000 o) (h : ∀ K L : Int, ∃ p ∈ P, lin K L p ≤ lin K L o) : whereM u o ≠ 0 := by
  rw [where_not (validB_iff.2 hu) ho]
  intro i hi
  obtain ⟨K, L, c, hKL, e⟩ := edge_form hu.2.2.2 hu.1 hi
  obtain ⟨p, hp, hlt⟩ := h K L
  have := H.left i hi p hp
  rw [e] at this ⊢
  omega
/-- Every vertex of a moved ring is there. -/
theorem MoveV.all {r : List Pt} {v : Pt} {o : List Pt × Int} (h : MoveV r v o) (h0 : o.2 = 0) {p : Pt} (hp : p ∈ r) : addP p v ∈ o.1 := by
  unfold MoveV at h
  split at h
  · split at h
    · obtain ⟨H, hl, -⟩ := h
      by_cases q : addP p v ∈ o.1
      · exact q
      · exfalso
        have hd : (addP p v :: o.1).Nodup := List.nodup_cons.2 ⟨q, List.pairwise_iff_getElem.2 fun i j hi hj hij => by
          have := H.hull.distinct (i := i) (k := j) hi hj (by omega)
          rw [at0_eq hi, at0_eq hj] at this
          exact this⟩
        have := nodup_le hd (m := r.map (fun p => addP p v)) (fun x hx => by
          rcases List.mem_cons.1 hx with rfl | hx
          · exact List.mem_map.2 ⟨p, hp, rfl⟩
          · exact H.hull.sub x hx)
        simp at this
        omega
    · rw [h] at h0; cases h0
  · rw [h] at h0; cases h0
/-- What 'meets' finds ahead of the edges. -/
def HitV (a b : List Pt) : Prop := (∃ p ∈ a, whereM b p ≠ 0) ∨ (∃ q ∈ b, whereM a q ≠ 0)
/-- If a vector touches, a fixed ring and a moved one have a vertex in common with the other. -/
theorem OfV.hit {fs ms : List (List Pt)} {out : List (List Pt) × Int} (h : OfV fs ms out) (h0 : out.2 = 0) {v : Pt} (hv : near 1000 v) (nf : ∀ r ∈ fs, (∀ p ∈ r, near 500 p) ∧ r.length ≤ 20) (nm : ∀ r ∈ ms, (∀ p ∈ r, near 500 p) ∧ r.length ≤ 20) (ht : touchB out.1 v = true) :
    forbB out.1 v = false ∧ ∃ r ∈ fs, ∃ s ∈ ms, ∀ o, MoveV s v o → o.2 = 0 ∧ HitV r o.1 := by
  have hne : out.1 ≠ [] := fun e => by rw [e] at ht; simp [touchB] at ht
  obtain ⟨hl, va, vb⟩ := h.valid h0 hne
  have ra : ∀ r ∈ fs, RingN 500 20 r := fun r hr => ⟨validB_iff.1 (va r hr), (nf r hr).1, (nf r hr).2⟩
  have rb : ∀ r ∈ ms, RingN 500 20 r := fun r hr => ⟨validB_iff.1 (vb r hr), (nm r hr).1, (nm r hr).2⟩
  obtain ⟨-, -, hO⟩ := h.ok (m := 500) (k := 500) (by omega) (by omega) (n := 20) (j := 20) (by omega) hl ra rb
  unfold touchB at ht
  rw [Bool.and_eq_true] at ht
  refine ⟨by simpa using ht.1, ?_⟩
  obtain ⟨r, hr, s, hs, h1, h2⟩ := (hO.on (near_mono (by omega) hv)).1 ht.2
  refine ⟨r, hr, s, hs, fun o ho => ?_⟩
  obtain ⟨e0, H, hC, hN, hlen⟩ := ho.ok (m := 500) (n := 1000) (by omega) (by omega) (rb s hs).1 (rb s hs).2.1 hv
  refine ⟨e0, ?_⟩
  rcases touch_vertex h1 h2 with ⟨a, ha, q⟩ | ⟨b, hb, q⟩
  · left
    refine ⟨a, ha, where_leI H.hull hC (near_mono (by omega) ((ra r hr).2.1 a ha)) fun K L => ?_⟩
    obtain ⟨b, hb, hl⟩ := q K L
    exact ⟨addP b v, List.mem_map.2 ⟨b, hb, rfl⟩, by rw [lin_add]; exact hl⟩
  · right
    refine ⟨addP b v, ho.all e0 hb, where_leI ((ra r hr).1.2.2.2.self (ra r hr).1.1) (ra r hr).1 (near_mono (by omega) (hN _ (ho.all e0 hb))) fun K L => ?_⟩
    obtain ⟨a, ha, hl⟩ := q K L
    exact ⟨a, ha, by rw [lin_add]; exact hl⟩
end Go.Proofs.Ytbienlhofkfdpaa
