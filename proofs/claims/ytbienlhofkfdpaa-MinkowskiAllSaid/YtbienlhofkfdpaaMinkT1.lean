/- Layer 15: Sum returns the hull of the sums, or the error that it has. -/
import Derived.Test.YtbienlhofkfdpaaMinkP7
namespace Go.Proofs.Ytbienlhofkfdpaa
open Go.RowKit Go.Sort
set_option linter.unusedVariables false
set_option linter.unusedSimpArgs false

def srtR (l T : List Pt) : Prop := T.Perm l ∧ ((∀ x ∈ l, Dir16 x) → Sd elt T 0 T.length)
theorem sortsAll : Sorts 100000 srtR := by
  refine ⟨fun l T h => h.1.length_eq, fun g off c b7 l w hL hn hD h hO hne => ?_⟩
  have := stable_any ord_ecmp b7 g off c l w hL ⟨h, hO.elim fun q => q.lt, hne⟩ hD (by omega)
  refine this.mono ?_
  rintro e w' ⟨he, T, hl, hr, hs, hg⟩
  refine ⟨he, T, hl, ⟨hr.perm, fun hD i j h1 h2 h3 => ?_⟩, hg⟩
  have hlen := hr.len
  have dT := hr.allD hD
  rw [← ecmp_elt (dT _ (at0_mem h3)).1 (dT _ (at0_mem (by omega))).1]
  exact hs i j h1 h2 (by omega)
theorem conv_begun {r : List Pt} {k : Nat} (h : Conv15 r) (hk : k < r.length) (hl : ∀ j, j < r.length → ¬ lexy (at0 r j) (at0 r k)) : Begun (rotL k r) := by
  have hlen := rotL_length (r := r) (Nat.le_of_lt hk)
  have h3 := h.1
  refine ⟨by omega, near_rotL h.2.2.1, ((h.2.2.2.self h3).rot hk).cv, fun j hj => ?_⟩
  rw [rot_at hk (by omega), rot_at hk (by omega), Nat.add_zero, Nat.mod_eq_of_lt hk]
  exact hl _ (Nat.mod_lt _ (by omega))
theorem mem_rotL {r : List Pt} {k : Nat} (q : Pt) : q ∈ rotL k r ↔ q ∈ r := by
  unfold rotL
  rw [List.mem_append, or_comm, ← List.mem_append, List.take_append_drop]
theorem mem_sums2_rot {r s : List Pt} {k m : Nat} (q : Pt) : q ∈ sums2 (rotL k r) (rotL m s) ↔ q ∈ sums2 r s := by
  rw [mem_sums2, mem_sums2]
  constructor
  · rintro ⟨a, ha, b, hb, e⟩; exact ⟨a, (mem_rotL a).1 ha, b, (mem_rotL b).1 hb, e⟩
  · rintro ⟨a, ha, b, hb, e⟩; exact ⟨a, (mem_rotL a).2 ha, b, (mem_rotL b).2 hb, e⟩
theorem wadd_near {a b : Int} {n : Nat} (hn : n ≤ 1000000) (ha : -(n * 16000 : Int) ≤ a ∧ a ≤ n * 16000) (hb : -16000 ≤ b ∧ b ≤ 16000) : wadd a b = a + b := by
  exact wadd_in (by omega)
/-- With bounded edges nothing wraps around. -/
theorem atK_pre {P : Pt} {T : List Pt} (hP : near 16000 P) (hT : ∀ x ∈ T, near 16000 x) (hl : T.length ≤ 100000) : ∀ k, k ≤ T.length → atK P T k = pre P T k ∧ near ((k + 1 : Nat) * 16000) (pre P T k)
  | 0, _ => by
    refine ⟨?_, ?_⟩
    · unfold pre sumL addP; simp [atK]
    · unfold pre sumL addP near at *; simp at *; omega
  | k + 1, h => by
    obtain ⟨i1, i2⟩ := atK_pre hP hT hl k (by omega)
    have hx := hT _ (at0_mem (c := T) (i := k) (by omega))
    have e : pre P T (k + 1) = addP (pre P T k) (at0 T k) := by
      unfold pre
      rw [List.take_succ_eq_append_getElem (by omega), sumL_app, sumL_one, at0_eq (by omega)]
      unfold addP
      exact Prod.ext (by simp only; omega) (by simp only; omega)
    rw [e]
    unfold near at i2 hx
    have i3 := i2.1
    have i4 := i2.2
    have j3 := hx.1
    have j4 := hx.2
    refine ⟨?_, ?_⟩
    · show addW (atK P T k) (at0 T k) = _
      rw [i1]
      unfold addW addP
      rw [wadd_near (n := k + 1) (by omega) (by omega) hx.1, wadd_near (n := k + 1) (by omega) (by omega) hx.2]
    · unfold addP near
      simp only
      omega
theorem newB_newE {T : List Pt} (hT : ∀ x ∈ T, near 16000 x) {k : Nat} (hk : k < T.length) : newB T k = newE T k := by
  unfold newB newE crossP
  by_cases k0 : k = 0
  · rw [k0]; rfl
  · have a := hT _ (at0_mem (c := T) (i := k - 1) (by omega))
    have b := hT _ (at0_mem (c := T) (i := k) hk)
    unfold near at a b
    rw [crs_exact a.1 a.2 b.1 b.2]
theorem outK_outV {P : Pt} {T : List Pt} (hP : near 16000 P) (hT : ∀ x ∈ T, near 16000 x) (hl : T.length ≤ 100000) : ∀ k, k ≤ T.length → outK P T k = ((List.range k).filter (newE T)).map (pre P T)
  | 0, _ => rfl
  | k + 1, h => by
    have ih := outK_outV hP hT hl k (by omega)
    have hn := newB_newE hT (k := k) (by omega)
    have ha := (atK_pre hP hT hl k (by omega)).1
    unfold outK
    rw [List.range_succ, List.filter_append, List.map_append, ih, hn, ha]
    cases q : newE T k
    · simp [q]
    · simp [q]
theorem sum_is {r s : List Pt} (hr : Conv15 r) (hs : Conv15 s) {out : List Pt × Int} (h : SumRes srtR r s out) : SumIs r s out := by
  obtain ⟨k, m, T, hk, h1, hm, h2, ⟨hp, hsd⟩, rfl⟩ := h
  have d1 := dirs_dir (n := r.length) hr hk
  have d2 := dirs_dir (n := s.length) hs hm
  have hd : ∀ x ∈ dirsK (rotL k r) r.length ++ dirsK (rotL m s) s.length, Dir16 x := fun x hx => by
    rcases List.mem_append.1 hx with q | q
    · exact d1 x q
    · exact d2 x q
  have l1 := rotL_length (r := r) (Nat.le_of_lt hk)
  have l2 := rotL_length (r := s) (Nat.le_of_lt hm)
  have M : Merged (rotL k r) (rotL m s) T := ⟨conv_begun hr hk h1, conv_begun hs hm h2, by rw [l1, l2]; exact hp, hsd hd⟩
  have H := M.hull
  have e1 : at0 (rotL k r) 0 = at0 r k := by rw [rot_at hk (by omega), Nat.add_zero, Nat.mod_eq_of_lt hk]
  have e2 : at0 (rotL m s) 0 = at0 s m := by rw [rot_at hm (by omega), Nat.add_zero, Nat.mod_eq_of_lt hm]
  rw [e1, e2] at H
  have n1 := hr.2.2.1 _ (at0_mem hk)
  have n2 := hs.2.2.1 _ (at0_mem hm)
  have eP : addW (at0 r k) (at0 s m) = addP (at0 r k) (at0 s m) := by
    unfold near at n1 n2
    unfold addW addP
    rw [wadd_near (n := 1) (by omega) (by omega) (by omega), wadd_near (n := 1) (by omega) (by omega) (by omega)]
  have hT : ∀ x ∈ T, near 16000 x := fun x hx => (hd x (hp.mem_iff.1 hx)).1
  have hl : T.length ≤ 100000 := by
    have := M.len
    have := hr.2.1
    have := hs.2.1
    omega
  have hP : near 16000 (addP (at0 r k) (at0 s m)) := by unfold near addP at *; simp only; omega
  refine ⟨_, H.more (fun q hq => (mem_sums2_rot q).2 hq) (fun v hv => (mem_sums2_rot v).1 (H.hull.sub v hv)), ?_⟩
  rw [eP]
  unfold sumOut checkedV
  rw [outK_outV hP hT hl _ (Nat.le_refl _)]
  rfl
end Go.Proofs.Ytbienlhofkfdpaa
