/- Layer 54 (plain): how long the results are. -/
import Derived.Test.YtpaojgfmffkodaaGreatLRep11
import Derived.Test.YtpaojgfmffkodaaGreatLRep50
namespace Go.Proofs.YtpaojgfmffkodaaGreat
set_option linter.unusedVariables false
set_option linter.unusedSimpArgs false
open Go.RowKit Go.Sort
structure LensR (x : StR) (r : ResR) : Prop where
  slots : r.slots.length ≤ x.bg.length + x.pd.length + x.L.length + 8
  moved : r.moved.length ≤ x.pd.length
  left : r.left.length ≤ x.L.length
theorem noRes_lens (x : StR) : LensR x noRes := ⟨Nat.zero_le _, Nat.zero_le _, Nat.zero_le _⟩
theorem keep_lens (x : StR) {kept : List Int} (hk : kept.length ≤ x.pd.length + 8) : LensR x (keepV (erSt x) kept).2 := by
  by_cases h : (keepV (erSt x) kept).1 = 0
  · have h1 := (keep_good h).2.2
    have h2 := h
    refine ⟨by omega, ?_, ?_⟩
    · rw [keepV_er] at h ⊢
      by_cases hk : keptB x.pd.length (-1) kept = true
      · rw [if_pos hk] at h ⊢
        by_cases hv : (validT x.s x.L (x.bg ++ keptL (erSt x) kept)).2 = 0
        · rw [if_pos hv]
          show (sortI (movedL (erSt x) kept)).length ≤ _
          rw [(sortI_perm _).length_eq]
          unfold movedL
          rw [List.length_map]
          have := List.length_filter_le (fun (i : Nat) => !kept.contains (i : Int)) (List.range (erSt x).pd.length)
          rw [List.length_range] at this
          exact this
        · rw [if_neg hv] at h
          cases h
      · rw [if_neg hk] at h
        cases h
    · rw [keepV_er] at h ⊢
      by_cases hk : keptB x.pd.length (-1) kept = true
      · rw [if_pos hk] at h ⊢
        by_cases hv : (validT x.s x.L (x.bg ++ keptL (erSt x) kept)).2 = 0
        · rw [if_pos hv]
          obtain ⟨hc, hg⟩ := validT_zero.1 hv
          have hLl : (erSt x).L.length = x.L.length := erL_length x.L
          obtain ⟨d1, ext, d2, d3⟩ := dispAll_ok hc (restV (erSt x) (x.bg ++ keptL (erSt x) kept)) (x.bg ++ keptL (erSt x) kept) [] hg (fun j hj => by
            obtain ⟨i, rfl, h1, -⟩ := freeL_mem.1 ((sortD_perm _ _).mem_iff.1 hj)
            omega)
          show (sortI (dispAll _ _ _ _ _).2).length ≤ _
          rw [(sortI_perm _).length_eq]
          have e1 := d3.length_eq
          have e2 : (restV (erSt x) (x.bg ++ keptL (erSt x) kept)).length ≤ x.L.length := by
            unfold restV
            rw [(sortD_perm _ _).length_eq, hLl]
            exact freeL_length_le _ _ _
          rw [List.length_append, List.length_map, List.nil_append] at e1
          omega
        · rw [if_neg hv] at h
          cases h
      · rw [if_neg hk] at h
        cases h
  · have e : (keepV (erSt x) kept).2 = noRes := by
      unfold keepV at h ⊢
      split
      · rename_i h1
        rw [if_pos h1] at h
        split
        · rename_i h2
          rw [if_pos h2] at h
          exact absurd rfl h
        · rfl
      · rfl
    rw [e]
    exact noRes_lens x
theorem replan_lens (x : StR) : LensR x (replanV (erSt x)).2 := keep_lens x (by
  have h2 := (chosen_len (erSt x) (erSt x).pd.length).2
  have h3 : (erSt x).pd.length = x.pd.length := rfl
  omega)
theorem leastTo_from (x : StP) : ∀ (k : Nat) (best : Option ResR) (r : ResR), leastTo x k best = some r → best = some r ∨ ∃ s, r = (keepV x (bitsL x.pd.length s)).2
  | 0, best, r, h => .inl h
  | k + 1, best, r, h => by
    rcases leastTo_from x k (leastStep x best k) r h with h1 | h1
    · unfold leastStep at h1
      split at h1
      · split at h1
        · injection h1 with h1
          exact .inr ⟨k, h1.symm⟩
        · split at h1
          · injection h1 with h1
            exact .inr ⟨k, h1.symm⟩
          · exact .inl h1
      · exact .inl h1
    · exact .inr h1
theorem least_lens (x : StR) : LensR x (leastV (erSt x)).2 := by
  unfold leastV
  split
  · exact noRes_lens x
  · cases h : leastTo (erSt x) (2 ^ (erSt x).pd.length) none with
    | none => exact noRes_lens x
    | some r =>
      rcases leastTo_from _ _ _ _ h with h1 | ⟨s, h1⟩
      · cases h1
      · simp only
        rw [h1]
        refine keep_lens x ?_
        have := bitsL_len (erSt x).pd.length s
        have h3 : (erSt x).pd.length = x.pd.length := rfl
        omega
theorem er_lens {a b : StR} (h : erSt a = erSt b) : a.L.length = b.L.length ∧ a.bg = b.bg ∧ a.pd = b.pd ∧ a.dr = b.dr := by
  have h1 := congrArg (fun x : StP => x.L.length) h
  simp only [erSt, erL_length] at h1
  exact ⟨h1, congrArg StP.bg h, congrArg StP.pd h, congrArg StP.dr h⟩
end Go.Proofs.YtpaojgfmffkodaaGreat
