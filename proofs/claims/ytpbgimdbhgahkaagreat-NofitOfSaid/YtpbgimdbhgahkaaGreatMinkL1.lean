/- Layer 15: what a sum is; the walk of MinkowskiSum. -/
import Derived.Test.YtpbgimdbhgahkaaGreatMinkR3
import Derived.Test.YtpbgimdbhgahkaaGreatMink14
namespace Go.Proofs.YtpbgimdbhgahkaaGreat
open Go.RowKit Go.Sort
set_option linter.unusedVariables false
set_option linter.unusedSimpArgs false
attribute [local go_sem ↓] Go.wp_at_zero Go.wp_at_succ

/-- A valid ring that begins with its least vertex. -/
def CanonR (u : List Pt) : Prop := Conv15 u ∧ ∀ k, k < u.length → (∀ j, j < u.length → ¬ lexy (at0 u j) (at0 u k)) → k = 0
theorem hullY_canon {P u : List Pt} (hu : HullY P u) (hn : u.all inV = true) (hl : u.length ≤ 160) : CanonR u := by
  have h3 := hu.hull.three
  refine ⟨⟨h3, hl, fun p hp => inV_near.1 (List.all_eq_true.1 hn p hp), hu.hull.cv⟩, fun k hk hm => ?_⟩
  by_cases k0 : k = 0
  · exact k0
  · exfalso
    rcases hu.first _ (hu.hull.sub _ (at0_mem hk)) with q | q
    · exact hu.hull.distinct (i := 0) (k := k) (by omega) hk (by omega) q
    · exact hm 0 (by omega) q
theorem checked_cases (u : List Pt) : (checkedV u = (u, 0) ∧ u.all inV = true ∧ u.length ≤ 160) ∨ (checkedV u = ([], 9) ∧ 160 < u.length) ∨ (checkedV u = ([], 2) ∧ u.all inV = false) := by
  unfold checkedV
  cases h : u.all inV
  · right; right; exact ⟨rfl, rfl⟩
  · by_cases h2 : 160 < u.length
    · right; left; rw [if_pos rfl, if_pos h2]; exact ⟨rfl, h2⟩
    · left; rw [if_pos rfl, if_neg h2]; exact ⟨rfl, rfl, by omega⟩
theorem SumV.ok {r s : List Pt} {out : List Pt × Int} (h : SumV r s out) (h0 : out.2 = 0) : CanonR out.1 ∧ HullY (sums2 r s) out.1 ∧ validB r = true ∧ validB s = true := by
  unfold SumV at h
  split at h
  · rename_i hv
    obtain ⟨u, hu, rfl⟩ := h
    rcases checked_cases u with ⟨e, a, b⟩ | ⟨e, _⟩ | ⟨e, _⟩
    · rw [e]; exact ⟨hullY_canon hu a b, hu, hv.1, hv.2⟩
    · rw [e] at h0; cases h0
    · rw [e] at h0; cases h0
  · rw [h] at h0; cases h0
theorem SumV.len {r s : List Pt} {out : List Pt × Int} (h : SumV r s out) : out.1.length ≤ 160 := by
  unfold SumV at h
  split at h
  · obtain ⟨u, hu, rfl⟩ := h
    rcases checked_cases u with ⟨e, a, b⟩ | ⟨e, _⟩ | ⟨e, _⟩ <;> rw [e]
    · exact b
    · exact Nat.zero_le _
    · exact Nat.zero_le _
  · rw [h]; exact Nat.zero_le _
end Go.Proofs.YtpbgimdbhgahkaaGreat
