/- Layer 18 (plain): what Grow, Overlap, Apart and Gap return, as functions. -/
import Derived.Test.YticmfmcflikneaaOffP1
import Derived.Test.YticmfmcflikneaaOff1
import Derived.Test.YticmfmcflikneaaOff2
import Derived.Test.YticmfmcflikneaaOff4
import Derived.Test.YticmfmcflikneaaHull16
namespace Go.Proofs.Yticmfmcflikneaa
open Go.RowKit Go.Sort
set_option linter.unusedVariables false

theorem hullRes_ex (l : List Pt) : ∃ x : List Pt × Int, HullRes l x.1 x.2 := by
  by_cases h1 : 400 < l.length
  · exact ⟨([], 9), .inl ⟨h1, rfl, rfl⟩⟩
  · cases h2 : l.any farB
    · by_cases h3 : Flat l
      · exact ⟨([], 11), .inr (.inr (.inl ⟨by omega, h2, h3, rfl, rfl⟩))⟩
      · obtain ⟨h, hy, -⟩ := hull_exists h2 h3
        by_cases h4 : 160 < h.length
        · exact ⟨([], 9), .inr (.inr (.inr ⟨by omega, h2, h, hy, .inl ⟨h4, rfl, rfl⟩⟩))⟩
        · exact ⟨(h, 0), .inr (.inr (.inr ⟨by omega, h2, h, hy, .inr ⟨by omega, rfl, rfl⟩⟩))⟩
    · exact ⟨([], 2), .inr (.inl ⟨by omega, h2, rfl, rfl⟩)⟩
/-- What Hull returns. -/
noncomputable def hullF (l : List Pt) : List Pt × Int := Classical.choose (hullRes_ex l)
theorem hullF_res (l : List Pt) : HullRes l (hullF l).1 (hullF l).2 := Classical.choose_spec (hullRes_ex l)
theorem hullF_eq {l r : List Pt} {e : Int} (h : HullRes l r e) : hullF l = (r, e) := by
  obtain ⟨h1, h2⟩ := (hullF_res l).unique h
  exact Prod.ext h1 h2
noncomputable def octF (k : Int) : List Pt := (hullF (octP k (octH k))).1
theorem octF_res {k : Int} (h1 : 1 ≤ k) (h2 : k ≤ 200) : OctRes k (octF k) 0 := by
  obtain ⟨e, h⟩ := oct_of h1 h2 (hullF_res (octP k (octH k)))
  rw [e] at h
  exact h
theorem octF_of {k : Int} {r : List Pt} {e : Int} (h1 : 1 ≤ k) (h2 : k ≤ 200) (h : OctRes k r e) : r = octF k ∧ e = 0 := h.unique (octF_res h1 h2)
/-- The octagon by which Grow widens. -/
noncomputable def octR (k : Int) : List Pt := if k = 0 then [(0, 0)] else octF k
noncomputable def growF (k : Int) (r : List Pt) : List Pt × Int := if convexB r then hullF (sumsL r (octR k)) else ([], 11)
noncomputable def growL (k : Int) : List (List Pt) → List (List Pt) × Int
  | [] => ([], 0)
  | r :: l => if (growF k r).2 = 0 then (if (growL k l).2 = 0 then ((growF k r).1 :: (growL k l).1, 0) else ([], (growL k l).2)) else ([], (growF k r).2)
noncomputable def growV (k : Int) (l : List (List Pt)) : List (List Pt) × Int := if 0 ≤ k ∧ k ≤ 200 then growL k l else ([], 2)
def sepPair (r s : List Pt) : Bool := sepB r s || sepB s r
noncomputable def apartV (a b : List (List Pt)) (k : Int) : Bool × Int :=
  if (growV k a).2 = 0 then (if b.all convexB then ((growV k a).1.all (fun r => b.all (sepPair r)), 0) else (false, 11)) else (false, (growV k a).2)
theorem growL_err (k : Int) : ∀ l, (growL k l).2 ≠ 0 → (growL k l).1 = []
  | [], h => absurd rfl h
  | r :: l, h => by
    unfold growL at *
    split at h
    · split at h
      · exact absurd rfl h
      · rename_i h1 h2
        rw [if_pos h1, if_neg h2]
    · rename_i h1
      rw [if_neg h1]
/-- The result when the rings 'out' stand ahead. -/
def growFin (out : List (List Pt)) (z : List (List Pt) × Int) : List (List Pt) × Int := if z.2 = 0 then (out ++ z.1, 0) else ([], z.2)
theorem growFin_nil (k : Int) (l : List (List Pt)) : growFin [] (growL k l) = growL k l := by
  unfold growFin
  by_cases h : (growL k l).2 = 0
  · rw [if_pos h, List.nil_append]; exact Prod.ext rfl h.symm
  · rw [if_neg h]; exact Prod.ext (growL_err k l h).symm rfl
theorem growFin_bad {k : Int} {out : List (List Pt)} {r : List Pt} {l : List (List Pt)} (h : (growF k r).2 ≠ 0) : growFin out (growL k (r :: l)) = ([], (growF k r).2) := by
  unfold growFin growL
  rw [if_neg h]
  exact if_neg h
theorem growFin_ok {k : Int} {out : List (List Pt)} {r : List Pt} {l : List (List Pt)} (h : (growF k r).2 = 0) : growFin out (growL k (r :: l)) = growFin (out ++ [(growF k r).1]) (growL k l) := by
  unfold growFin
  rw [growL, if_pos h]
  by_cases h2 : (growL k l).2 = 0
  · rw [if_pos h2, if_pos h2, if_pos rfl, List.append_assoc]; rfl
  · rw [if_neg h2, if_neg h2, if_neg h2]
theorem growFin_end {k : Int} {out : List (List Pt)} : growFin out (growL k []) = (out, 0) := by
  unfold growFin growL
  rw [if_pos rfl, List.append_nil]
theorem growF_bad {k : Int} {r : List Pt} (h : convexB r = false) : growF k r = ([], 11) := by unfold growF; rw [h]; rfl
theorem growF_ok {k : Int} {r : List Pt} (h : convexB r = true) : growF k r = hullF (sumsL r (octR k)) := by unfold growF; rw [h]; rfl
theorem hullRes_ok {l r : List Pt} (h : HullRes l r 0) : HullY l r ∧ r.length ≤ 160 ∧ l.any farB = false := by
  rcases h with ⟨-, -, h⟩ | ⟨-, -, -, h⟩ | ⟨-, -, -, -, h⟩ | ⟨-, hf, x, hx, ⟨-, -, h⟩ | ⟨h1, rfl, -⟩⟩
  · omega
  · omega
  · omega
  · omega
  · exact ⟨hx, h1, hf⟩
theorem octR_len {k : Int} (h0 : 0 ≤ k) (h2 : k ≤ 200) : (octR k).length ≤ 8 := by
  unfold octR
  split
  · decide
  · rcases octF_res (k := k) (by omega) h2 with ⟨h, -⟩ | ⟨-, -, -, -, h⟩
    · omega
    · exact h
theorem sums_zero {r : List Pt} (h : r.any farB = false) : sumsL r [(0, 0)] = r := by
  induction r with
  | nil => rfl
  | cons p r ih =>
    rw [List.any_cons, Bool.or_eq_false_iff] at h
    have hp := far_bounds (l := [p]) (by simp [h.1]) p (by simp)
    have e : sumOf p (0, 0) = p := by
      unfold sumOf
      rw [wadd_in (by omega), wadd_in (by omega)]
      exact Prod.ext (Int.add_zero _) (Int.add_zero _)
    unfold sumsL at *
    rw [List.flatMap_cons, ih h.2]
    simp [e]
theorem growF_zero {r s : List Pt} (h : convexB r = true) (hy : HullY r s) (hs : s.length = r.length) : growF 0 r = (s, 0) := by
  obtain ⟨h3, h160, hf, hc⟩ := convexB_iff.1 h
  rw [growF_ok h, show octR 0 = [(0, 0)] from rfl, sums_zero hf]
  exact hullF_eq (.inr (.inr (.inr ⟨by omega, hf, s, hy, .inr ⟨by omega, rfl, rfl⟩⟩)))
theorem convex_begin {r : List Pt} {k : Nat} (h : convexB r = true) (hk : k < r.length) (hm : ∀ j, j < r.length → ¬ lexy (at0 r j) (at0 r k)) : HullY r (rotL k r) := by
  obtain ⟨h3, -, hf, hc⟩ := convexB_iff.1 h
  exact begin_hull (M := 8000) (fun q hq => (far_bounds hf q hq).1) (hc.self h3) hk hm
end Go.Proofs.Yticmfmcflikneaa
