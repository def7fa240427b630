/- Layer 10: the walk of HullAgain. -/
import Derived.Test.YticmfmcflikneaaHull28
import Derived.Test.YticmfmcflikneaaSl2
import Derived.Test.YticmfmcflikneaaSame
namespace Go.Proofs.Yticmfmcflikneaa
open Go.RowKit Go.Sort
set_option linter.unusedVariables false
set_option linter.unusedSimpArgs false
attribute [local go_sem ↓] Go.wp_at_zero Go.wp_at_succ

/-- The vertices of a ring, rotated by t and as they are, in turn. -/
def rotV (r : List Pt) (t : Nat) : Nat → List Pt
  | 0 => []
  | i + 1 => rotV r t i ++ [at0 r ((i + t) % r.length), at0 r i]
theorem rotV_len (r : List Pt) (t : Nat) : ∀ n, (rotV r t n).length = 2 * n
  | 0 => rfl
  | n + 1 => by unfold rotV; rw [List.length_append, rotV_len r t n]; simp; omega
theorem rotV_sub {r : List Pt} {t : Nat} (h0 : 0 < r.length) : ∀ {n}, n ≤ r.length → ∀ p ∈ rotV r t n, p ∈ r
  | 0, _, p, hp => by cases hp
  | n + 1, hn, p, hp => by
    unfold rotV at hp
    rcases List.mem_append.1 hp with h | h
    · exact rotV_sub h0 (by omega) p h
    · simp only [List.mem_cons, List.not_mem_nil, or_false] at h
      rcases h with rfl | rfl
      · exact at0_mem (Nat.mod_lt _ h0)
      · exact at0_mem (by omega)
theorem rotV_has {r : List Pt} {t i : Nat} : ∀ {n}, i < n → at0 r i ∈ rotV r t n
  | n + 1, h => by
    unfold rotV
    by_cases q : i = n
    · subst q; simp
    · exact List.mem_append_left _ (rotV_has (by omega))
theorem rot_hull {l r : List Pt} {t : Nat} (h : HullY l r) : HullY (rotV r t r.length) r := by
  have h3 := h.hull.three
  refine h.more (fun q hq => h.hull.sub q (rotV_sub (by omega) (Nat.le_refl _) q hq)) (fun v hv => ?_)
  obtain ⟨i, hi, rfl⟩ := List.getElem_of_mem hv
  rw [← at0_eq hi]
  exact rotV_has hi
theorem small_of {l m : List Pt} (hl : smallB l = true) (hs : ∀ p ∈ m, p ∈ l) (hn : m.length ≤ 30) : smallB m = true := by
  unfold smallB
  rw [far_sub (smallB_far hl).1 hs, decide_eq_true hn]
  rfl
theorem small_app {l m : List Pt} (hl : smallB l = true) (hm : smallB m = true) (hn : l.length + m.length ≤ 30) : smallB (l ++ m) = true := by
  unfold smallB
  rw [List.any_append, (smallB_far hl).1, (smallB_far hm).1, decide_eq_true (by rw [List.length_append]; exact hn)]
  rfl
theorem hullY_err {l r r' : List Pt} {e : Int} (h : HullRes l r e) (hs : smallB l = true) (h2 : HullY l r') : e = 0 ∧ r = r' := by
  rcases h.small hs with ⟨-, -, f⟩ | ⟨e0, y, -⟩
  · exact absurd f (not_flat h2.hull)
  · exact ⟨e0, y.unique h2⟩
/-- The hull of two lists is that of the vertices of both hulls. -/
theorem hull_both {l m r s c d : List Pt} {i j : Int} (hl : HullY l r) (hm : HullY m s) (sl : smallB (l ++ m) = true) (sr : smallB (r ++ s) = true) (hc : HullRes (l ++ m) c i) (hd : HullRes (r ++ s) d j) : i = 0 ∧ j = 0 ∧ c = d := by
  rcases hd.small sr with ⟨-, -, f⟩ | ⟨j0, y, -⟩
  · exfalso
    refine not_flat (l := r) (r := r) (hl.hull.more hl.hull.sub (fun v hv => hv)) (fun u hu v hv w hw => f u ?_ v ?_ w ?_) <;> exact List.mem_append_left _ (by assumption)
  · have y2 : HullY (l ++ m) d := by
      refine ⟨⟨y.hull.three, y.hull.convex, fun i hi q hq => ?_, fun q hq => ?_⟩, fun q hq => ?_⟩
      · rcases List.mem_append.1 hq with h | h
        · exact hl.hull.side _ _ (fun v hv => y.hull.left i hi v (List.mem_append_left _ hv)) q h
        · exact hm.hull.side _ _ (fun v hv => y.hull.left i hi v (List.mem_append_right _ hv)) q h
      · rcases List.mem_append.1 (y.hull.sub q hq) with h | h
        · exact List.mem_append_left _ (hl.hull.sub q h)
        · exact List.mem_append_right _ (hm.hull.sub q h)
      · have low : ∀ {l r : List Pt}, HullY l r → (∀ p ∈ r, at0 d 0 = p ∨ lexy (at0 d 0) p) → q ∈ l → at0 d 0 = q ∨ lexy (at0 d 0) q := fun {l r} h hr hq => by
          have h3 := h.hull.three
          rcases hr (at0 r 0) (at0_mem (by omega)) with e | e <;> rcases h.first q hq with e' | e'
          · exact .inl (e.trans e')
          · exact .inr (e ▸ e')
          · exact .inr (e' ▸ e)
          · exact .inr (lexy_trans e e')
        rcases List.mem_append.1 hq with h | h
        · exact low hl (fun p hp => y.first p (List.mem_append_left _ hp)) h
        · exact low hm (fun p hp => y.first p (List.mem_append_right _ hp)) h
    obtain ⟨i0, e⟩ := hullY_err hc sl y2
    exact ⟨i0, j0, e⟩
end Go.Proofs.Yticmfmcflikneaa
