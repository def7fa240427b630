/- Layer 10 (plain): the width and the diameter of both sides are one. -/
import Derived.Test.YticmfmcflikneaaHull21
namespace Go.Proofs.Yticmfmcflikneaa
set_option linter.unusedVariables false

theorem dotP_farS (d b v : Pt) : dotP (farS d b v) d = max (dotP b d) (dotP v d) := by
  rw [farS_eq]
  split
  · omega
  · omega
theorem dotP_fold (d : Pt) : ∀ (l : List Pt) (b : Pt), dotP (l.foldl (farS d) b) d = dotMax d (dotP b d) l
  | [], b => rfl
  | v :: l, b => by
    rw [List.foldl_cons, dotP_fold d l, dotP_farS]
    rfl
theorem farS_mem (d b v : Pt) {r : List Pt} (hb : b ∈ r) (hv : v ∈ r) : farS d b v ∈ r := by
  unfold farS; split <;> assumption
theorem fold_mem (d : Pt) {r : List Pt} : ∀ (l : List Pt) (b : Pt), b ∈ r → (∀ v ∈ l, v ∈ r) → l.foldl (farS d) b ∈ r
  | [], b, hb, _ => hb
  | v :: l, b, hb, hl => by
    rw [List.foldl_cons]
    exact fold_mem d l _ (farS_mem d b v hb (hl v (List.mem_cons_self ..))) (fun x hx => hl x (List.mem_cons_of_mem _ hx))
theorem le_dotMin (d : Pt) (K : Int) : ∀ (l : List Pt) (m : Int), K ≤ dotMin d m l ↔ K ≤ m ∧ ∀ v ∈ l, K ≤ dotP v d
  | [], m => by simp [dotMin]
  | v :: l, m => by
    rw [show dotMin d m (v :: l) = dotMin d (min m (dotP v d)) l from rfl, le_dotMin d K l]
    constructor
    · rintro ⟨h1, h2⟩
      refine ⟨by omega, fun x hx => ?_⟩
      rcases List.mem_cons.1 hx with e | e
      · subst e; omega
      · exact h2 x e
    · rintro ⟨h1, h2⟩
      have := h2 v (List.mem_cons_self ..)
      exact ⟨by omega, fun x hx => h2 x (List.mem_cons_of_mem _ hx)⟩
theorem wid_one (r : List Pt) (d : Pt) : widRes r d = widRef r d := by
  unfold widRes widRef
  rw [farRes_check]
  by_cases hc : checkR r d = 0
  · rw [if_pos hc, if_pos hc, if_pos rfl]
    have h3 : 3 ≤ r.length := by
      unfold checkR at hc
      cases hv : convexB r
      · rw [hv] at hc; simp at hc
      · unfold convexB at hv
        simp only [Bool.and_eq_true, decide_eq_true_eq] at hv
        omega
    have h0 : at0 r 0 ∈ r := at0_mem (by omega)
    have hm : farthest r d ∈ r := fold_mem d r _ h0 (fun _ h => h)
    have e1 : dotP (farthest r d) d = dotMax d (dotP (at0 r 0) d) r := dotP_fold d r _
    have e2 : dotMin d (dotP (farthest r d) d) r = dotMin d (dotP (at0 r 0) d) r := by
      have a := (le_dotMin d (dotMin d (dotP (farthest r d) d) r) r (dotP (farthest r d) d)).1 (Int.le_refl _)
      have b := (le_dotMin d (dotMin d (dotP (at0 r 0) d) r) r (dotP (at0 r 0) d)).1 (Int.le_refl _)
      have a' := (le_dotMin d (dotMin d (dotP (farthest r d) d) r) r (dotP (at0 r 0) d)).2 ⟨a.2 _ h0, a.2⟩
      have b' := (le_dotMin d (dotMin d (dotP (at0 r 0) d) r) r (dotP (farthest r d) d)).2 ⟨b.2 _ hm, b.2⟩
      omega
    show (wsub (dotP (farthest r d) d) (dotMin d (dotP (farthest r d) d) r), (0 : Int)) = _
    rw [e2, e1]
  · rw [if_neg hc, if_neg hc, if_neg hc]
theorem diaRow_le (a : Pt) (K : Int) : ∀ (l : List Pt) (m : Int), diaRow a m l ≤ K ↔ m ≤ K ∧ ∀ b ∈ l, d2 a b ≤ K
  | [], m => by simp [diaRow]
  | v :: l, m => by
    rw [show diaRow a m (v :: l) = diaRow a (max m (d2 a v)) l from rfl, diaRow_le a K l]
    constructor
    · rintro ⟨h1, h2⟩
      refine ⟨by omega, fun x hx => ?_⟩
      rcases List.mem_cons.1 hx with e | e
      · subst e; omega
      · exact h2 x e
    · rintro ⟨h1, h2⟩
      have := h2 v (List.mem_cons_self ..)
      exact ⟨by omega, fun x hx => h2 x (List.mem_cons_of_mem _ hx)⟩
theorem diaTo_le (r : List Pt) (K : Int) : ∀ (l : List Pt) (m : Int), diaTo r m l ≤ K ↔ m ≤ K ∧ ∀ a ∈ l, ∀ b ∈ r, d2 a b ≤ K
  | [], m => by simp [diaTo]
  | v :: l, m => by
    rw [show diaTo r m (v :: l) = diaTo r (diaRow v m r) l from rfl, diaTo_le r K l, diaRow_le]
    constructor
    · rintro ⟨⟨h1, h3⟩, h2⟩
      refine ⟨h1, fun x hx => ?_⟩
      rcases List.mem_cons.1 hx with e | e
      · subst e; exact h3
      · exact h2 x e
    · rintro ⟨h1, h2⟩
      exact ⟨⟨h1, h2 v (List.mem_cons_self ..)⟩, fun x hx => h2 x (List.mem_cons_of_mem _ hx)⟩
theorem diaR_le (r : List Pt) (K : Int) : ∀ n, n ≤ r.length → (diaR r n ≤ K ↔ 0 ≤ K ∧ ∀ i, i < n → ∀ k, k < i → d2 (at0 r i) (at0 r k) ≤ K)
  | 0, _ => by simp [diaR]
  | n + 1, hn => by
    rw [show diaR r (n + 1) = diaRow (at0 r n) (diaR r n) (r.take n) from rfl, diaRow_le, diaR_le r K n (by omega)]
    constructor
    · rintro ⟨⟨h1, h2⟩, h3⟩
      refine ⟨h1, fun i hi k hk => ?_⟩
      by_cases e : i = n
      · subst e
        refine h3 _ ?_
        rw [at0_eq (by omega)]
        exact List.mem_take_iff_getElem.2 ⟨k, by omega, rfl⟩
      · exact h2 i (by omega) k hk
    · rintro ⟨h1, h2⟩
      refine ⟨⟨h1, fun i hi k hk => h2 i (by omega) k hk⟩, fun b hb => ?_⟩
      obtain ⟨k, hk, rfl⟩ := List.mem_take_iff_getElem.1 hb
      rw [← at0_eq (by omega)]
      exact h2 n (by omega) k (by omega)
theorem d2_exact {a b : Pt} (ha : farB a = false) (hb : farB b = false) : d2 a b = nrm b a := by
  obtain ⟨ax, ay⟩ := a
  obtain ⟨bx, by_⟩ := b
  exact nrm_exact hb ha
theorem nrm_comm (a b : Pt) : nrm a b = nrm b a := by unfold nrm; grind
theorem nrm_self (a : Pt) : nrm a a = 0 := by unfold nrm; grind
theorem dia_one {r : List Pt} (h : convexB r = true) : dia r = diaR r r.length := by
  have hf : r.any farB = false := by
    unfold convexB at h
    simp only [Bool.and_eq_true, Bool.not_eq_true'] at h
    exact h.1.2
  have hfar : ∀ p ∈ r, farB p = false := fun p hp => by simpa using List.any_eq_false.1 hf p hp
  have key : ∀ K, dia r ≤ K ↔ diaR r r.length ≤ K := by
    intro K
    unfold dia
    rw [diaTo_le, diaR_le r K _ (Nat.le_refl _)]
    constructor
    · rintro ⟨h1, h2⟩
      exact ⟨h1, fun i hi k hk => h2 _ (at0_mem hi) _ (at0_mem (by omega))⟩
    · rintro ⟨h1, h2⟩
      refine ⟨h1, fun a ha b hb => ?_⟩
      have fa := hfar a ha
      have fb := hfar b hb
      obtain ⟨i, hi, rfl⟩ := List.getElem_of_mem ha
      obtain ⟨k, hk, rfl⟩ := List.getElem_of_mem hb
      rw [← at0_eq hi, ← at0_eq hk] at *
      rcases Nat.lt_trichotomy i k with e | e | e
      · have := h2 k hk i e
        rw [d2_exact fa fb]
        rw [d2_exact fb fa, nrm_comm] at this
        exact this
      · subst e
        rw [d2_exact fa fa, nrm_self]; exact h1
      · exact h2 i hi k e
  have a := (key (dia r)).1 (Int.le_refl _)
  have b := (key (diaR r r.length)).2 (Int.le_refl _)
  omega
end Go.Proofs.Yticmfmcflikneaa
