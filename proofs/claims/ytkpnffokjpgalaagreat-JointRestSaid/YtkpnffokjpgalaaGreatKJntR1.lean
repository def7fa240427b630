/- Layer 46 (plain): the unit steps of a segment; two segments overlap exactly if they have a unit step in common. -/
import Derived.Test.YtkpnffokjpgalaaGreatKJntP8
namespace Go.Proofs.YtkpnffokjpgalaaGreat
set_option linter.unusedVariables false
set_option linter.unusedSimpArgs false

/-- A unit step of a line, whatever its direction. -/
def unK (a v : Pt) (k : Int) : Pt × Pt := (mnK (ptK a v k) (ptK a v (k + 1)), mxK (ptK a v k) (ptK a v (k + 1)))
/-- The unit steps of a segment. -/
def uns (s : Pt × Pt) : List (Pt × Pt) := (List.range (stepsK s.1 s.2).toNat).map fun n : Nat => unK s.1 (dirK s.1 s.2) n
theorem mn_all {a v : Pt} (h : key v ≠ 0) {k l i j : Int} (h1 : imin k l = imin i j) (h2 : imax k l = imax i j) :
    mnK (ptK a v k) (ptK a v l) = mnK (ptK a v i) (ptK a v j) ∧ mxK (ptK a v k) (ptK a v l) = mxK (ptK a v i) (ptK a v j) := by
  rcases Int.lt_or_lt_of_ne h with hv | hv
  · rw [(mn_pt' hv k l).1, (mn_pt' hv k l).2, (mn_pt' hv i j).1, (mn_pt' hv i j).2, h1, h2]; exact ⟨rfl, rfl⟩
  · rw [(mn_pt hv k l).1, (mn_pt hv k l).2, (mn_pt hv i j).1, (mn_pt hv i j).2, h1, h2]; exact ⟨rfl, rfl⟩
theorem unK_inj {a v : Pt} (h : key v ≠ 0) {k l : Int} (e : unK a v k = unK a v l) : k = l := by
  unfold unK at e
  have e1 := congrArg Prod.fst e
  simp only at e1
  rcases Int.lt_or_lt_of_ne h with hv | hv
  · rw [(mn_pt' hv _ _).1, (mn_pt' hv _ _).1] at e1
    have := pt_inj h e1
    unfold imax at this
    split at this <;> split at this <;> omega
  · rw [(mn_pt hv _ _).1, (mn_pt hv _ _).1] at e1
    have := pt_inj h e1
    unfold imin at this
    split at this <;> split at this <;> omega
theorem ptK_pt (a v : Pt) (i k : Int) : ptK (ptK a v i) v k = ptK a v (i + k) := by unfold ptK; exact Prod.ext (by simp only; grind) (by simp only; grind)
def ngK (v : Pt) : Pt := (-v.1, -v.2)
theorem ptK_ng (a v : Pt) (i k : Int) : ptK (ptK a v i) (ngK v) k = ptK a v (i - k) := by unfold ptK ngK; exact Prod.ext (by simp only; grind) (by simp only; grind)
theorem unK_on (a v : Pt) (i k : Int) : unK (ptK a v i) v k = unK a v (i + k) := by unfold unK; rw [ptK_pt, ptK_pt, Int.add_assoc]
theorem unK_ng {a v : Pt} (h : key v ≠ 0) (i k : Int) : unK (ptK a v i) (ngK v) k = unK a v (i - k - 1) := by
  unfold unK
  rw [ptK_ng, ptK_ng]
  obtain ⟨e1, e2⟩ := mn_all (a := a) h (k := i - k) (l := i - (k + 1)) (i := i - k - 1) (j := i - k - 1 + 1) (by unfold imin; split <;> split <;> omega) (by unfold imax; split <;> split <;> omega)
  rw [e1, e2]
/-- No step is shorter. -/
def primK (v : Pt) : Prop := Int.gcd v.1 v.2 = 1
theorem prim_dir {a b : Pt} (h : a ≠ b) : primK (dirK a b) := dirK_prime h
theorem steps_pt {a v : Pt} (hp : primK v) (i j : Int) : stepsK (ptK a v i) (ptK a v j) = ((j - i).natAbs : Int) := by
  unfold stepsK gcdI ptK
  simp only
  rw [show a.1 + v.1 * j - (a.1 + v.1 * i) = v.1 * (j - i) by grind, show a.2 + v.2 * j - (a.2 + v.2 * i) = v.2 * (j - i) by grind, Int.gcd_mul_right]
  unfold primK at hp
  rw [hp, Nat.one_mul]
theorem dir_pt {a v : Pt} (hp : primK v) {i j : Int} (h : i ≠ j) : dirK (ptK a v i) (ptK a v j) = if i < j then v else ngK v := by
  unfold dirK
  rw [steps_pt hp]
  unfold ptK
  simp only
  rw [show a.1 + v.1 * j - (a.1 + v.1 * i) = v.1 * (j - i) by grind, show a.2 + v.2 * j - (a.2 + v.2 * i) = v.2 * (j - i) by grind]
  split
  · rw [show ((j - i).natAbs : Int) = j - i by omega, Int.mul_tdiv_cancel _ (by omega), Int.mul_tdiv_cancel _ (by omega)]
  · rw [show ((j - i).natAbs : Int) = -(j - i) by omega, Int.tdiv_neg, Int.tdiv_neg, Int.mul_tdiv_cancel _ (by omega), Int.mul_tdiv_cancel _ (by omega)]
    rfl
theorem uns_up {a v : Pt} (hp : primK v) {i j : Int} (h : i < j) : uns (ptK a v i, ptK a v j) = (List.range (j - i).toNat).map fun n : Nat => unK a v (i + n) := by
  unfold uns
  simp only
  rw [steps_pt hp, dir_pt hp (by omega), if_pos h, show (((j - i).natAbs : Nat) : Int).toNat = (j - i).toNat by omega]
  apply List.map_congr_left
  intro n _
  exact unK_on a v i n
theorem mem_uns_pt {a v : Pt} (hk : key v ≠ 0) (hp : primK v) {i j : Int} (h : i ≠ j) (u : Pt × Pt) : u ∈ uns (ptK a v i, ptK a v j) ↔ ∃ k, imin i j ≤ k ∧ k < imax i j ∧ u = unK a v k := by
  unfold uns
  simp only [List.mem_map, List.mem_range]
  rw [steps_pt hp, dir_pt hp h]
  by_cases hij : i < j
  · rw [if_pos hij, show imin i j = i by unfold imin; split <;> omega, show imax i j = j by unfold imax; split <;> omega]
    constructor
    · rintro ⟨n, hn, rfl⟩
      exact ⟨i + n, by omega, by omega, unK_on a v i n⟩
    · rintro ⟨k, h1, h2, rfl⟩
      refine ⟨(k - i).toNat, by omega, ?_⟩
      rw [unK_on]
      congr 1
      omega
  · rw [if_neg hij, show imin i j = j by unfold imin; split <;> omega, show imax i j = i by unfold imax; split <;> omega]
    constructor
    · rintro ⟨n, hn, rfl⟩
      exact ⟨i - n - 1, by omega, by omega, unK_ng hk i n⟩
    · rintro ⟨k, h1, h2, rfl⟩
      refine ⟨(i - k - 1).toNat, by omega, ?_⟩
      rw [unK_ng hk]
      congr 1
      omega
theorem mem_uns {s : Pt × Pt} (u : Pt × Pt) : u ∈ uns s ↔ ∃ k, 0 ≤ k ∧ k < stepsK s.1 s.2 ∧ u = unK s.1 (dirK s.1 s.2) k := by
  unfold uns
  simp only [List.mem_map, List.mem_range]
  constructor
  · rintro ⟨n, hn, rfl⟩; exact ⟨n, by omega, by omega, rfl⟩
  · rintro ⟨k, h1, h2, rfl⟩; exact ⟨k.toNat, by omega, by rw [show ((k.toNat : Nat) : Int) = k by omega]⟩
theorem uns_nodup {s : Pt × Pt} (hs : IsSegN s) : (uns s).Nodup := by
  have hk := dirK_key hs.1 hs.2.1 hs.2.2
  unfold uns
  rw [List.Nodup, List.pairwise_map]
  exact List.nodup_range.imp fun h e => h (by have := unK_inj hk e; omega)
/-- The ends of a unit step. -/
theorem unK_ends (a v : Pt) (k : Int) (p : Pt) : (p = (unK a v k).1 ∨ p = (unK a v k).2) → p = ptK a v k ∨ p = ptK a v (k + 1) := by
  unfold unK
  simp only
  rintro (h | h)
  · rcases mnK_or (ptK a v k) (ptK a v (k + 1)) with e | e <;> rw [e] at h <;> simp [h]
  · rcases mxK_or (ptK a v k) (ptK a v (k + 1)) with e | e <;> rw [e] at h <;> simp [h]
theorem unK_has {a v : Pt} (h : key v ≠ 0) (k : Int) (p : Pt) : (p = (unK a v k).1 ∨ p = (unK a v k).2) ↔ p = ptK a v k ∨ p = ptK a v (k + 1) := by
  refine ⟨unK_ends a v k p, ?_⟩
  unfold unK
  simp only
  rcases Int.lt_or_lt_of_ne h with hv | hv
  · rw [(mn_pt' hv _ _).1, (mn_pt' hv _ _).2, show imax k (k + 1) = k + 1 by unfold imax; split <;> omega, show imin k (k + 1) = k by unfold imin; split <;> omega]
    rintro (e | e) <;> simp [e]
  · rw [(mn_pt hv _ _).1, (mn_pt hv _ _).2, show imax k (k + 1) = k + 1 by unfold imax; split <;> omega, show imin k (k + 1) = k by unfold imin; split <;> omega]
    rintro (e | e) <;> simp [e]
/-- A point lies on a segment exactly if it ends one of its unit steps. -/
theorem on_uns {s : Pt × Pt} (hs : IsSegN s) (p : Pt) : onS s.1 s.2 p ↔ ∃ u ∈ uns s, p = u.1 ∨ p = u.2 := by
  have hk := dirK_key hs.1 hs.2.1 hs.2.2
  have hg := stepsK_pos hs.1
  constructor
  · intro h
    obtain ⟨k, ⟨h0, h1⟩, rfl⟩ := on_step hs.1 h
    rcases Int.lt_or_eq_of_le h1 with h2 | h2
    · exact ⟨_, (mem_uns _).2 ⟨k, h0, h2, rfl⟩, (unK_has hk k _).2 (.inl (pointK_pt _ _ _))⟩
    · exact ⟨_, (mem_uns _).2 ⟨k - 1, by omega, by omega, rfl⟩, (unK_has hk (k - 1) _).2 (.inr (by rw [pointK_pt]; congr 1; omega))⟩
  · rintro ⟨u, hu, hp⟩
    obtain ⟨k, h0, h1, rfl⟩ := (mem_uns u).1 hu
    rcases (unK_has hk k p).1 hp with e | e
    · rw [e, ← pointK_pt]; exact step_on hs.1 h0 (by omega)
    · rw [e, ← pointK_pt]; exact step_on hs.1 (by omega) (by omega)
/-- A step of a segment overlaps with another segment exactly if it is one of its unit steps. -/
theorem over_un {s o : Pt × Pt} (hs : IsSegN s) (ho : IsSegN o) (n : Int) : stepOver s o n ↔ unK s.1 (dirK s.1 s.2) n ∈ uns o := by
  have hk := dirK_key hs.1 hs.2.1 hs.2.2
  have hp := prim_dir hs.1
  by_cases hl : ∃ i j : Int, i ≠ j ∧ o.1 = pointK s.1 s.2 i ∧ o.2 = pointK s.1 s.2 j
  · obtain ⟨i, j, hij, hi, hj⟩ := hl
    have e := (line_meet (a := s.1) hk (x := n) (y := n + 1) (i := i) (j := j) (by omega) hij).1
    simp only [← pointK_pt, ← hi, ← hj] at e
    have e2 := mem_uns_pt (a := s.1) hk hp hij (unK s.1 (dirK s.1 s.2) n)
    simp only [← pointK_pt, ← hi, ← hj] at e2
    have : loI n (n + 1) i j < hiI n (n + 1) i j ↔ imin i j ≤ n ∧ n < imax i j := by
      unfold loI hiI imax imin
      split <;> split <;> split <;> split <;> (try split) <;> (try split) <;> omega
    rw [e2]
    unfold stepOver
    rw [e]
    constructor
    · intro h
      have h3 : loI n (n + 1) i j < hiI n (n + 1) i j := by
        split at h
        · simp at h
        · split at h
          · assumption
          · simp at h
      exact ⟨n, (this.1 h3).1, (this.1 h3).2, rfl⟩
    · rintro ⟨k, h1, h2, h3⟩
      obtain rfl := unK_inj hk h3
      have h4 := this.2 ⟨h1, h2⟩
      rw [if_neg (by omega), if_pos h4]
  · have hr := (line_or hs.1 ho.1).resolve_left hl
    constructor
    · intro h
      exact absurd h (hr n (n + 1) (by omega))
    · intro h
      exfalso
      apply hl
      obtain ⟨m, -, -, e⟩ := (mem_uns _).1 h
      have hko := dirK_key ho.1 ho.2.1 ho.2.2
      have p1 := (unK_has (a := o.1) hko m _).2 (.inl rfl)
      have p2 := (unK_has (a := o.1) hko m _).2 (.inr rfl)
      rw [← e] at p1 p2
      have q1 := unK_ends _ _ _ _ p1
      have q2 := unK_ends _ _ _ _ p2
      have z : ∀ k, ptK s.1 (dirK s.1 s.2) k = pointK s.1 s.2 k := fun k => (pointK_pt _ _ _).symm
      rw [z, z] at q1 q2
      have on1 : det s.1 s.2 (ptK o.1 (dirK o.1 o.2) m) = 0 := by
        rcases q1 with q | q <;> rw [q, pointK_pt] <;> exact det_line (dirK_mul s.1 s.2) _
      have on2 : det s.1 s.2 (ptK o.1 (dirK o.1 o.2) (m + 1)) = 0 := by
        rcases q2 with q | q <;> rw [q, pointK_pt] <;> exact det_line (dirK_mul s.1 s.2) _
      have all : ∀ k, det s.1 s.2 (ptK o.1 (dirK o.1 o.2) k) = 0 := by
        intro k
        generalize dirK o.1 o.2 = v at *
        have d1 : det s.1 s.2 (ptK o.1 v (m + 1)) - det s.1 s.2 (ptK o.1 v m) = (s.2.1 - s.1.1) * v.2 - (s.2.2 - s.1.2) * v.1 := by unfold det ptK; grind
        have d2 : det s.1 s.2 (ptK o.1 v k) = det s.1 s.2 (ptK o.1 v m) + (k - m) * ((s.2.1 - s.1.1) * v.2 - (s.2.2 - s.1.2) * v.1) := by unfold det ptK; grind
        rw [d2, ← d1, on1, on2]
        simp
      have c1 := all 0
      have c2 := all (stepsK o.1 o.2)
      rw [← pointK_pt, pointK_0] at c1
      rw [← pointK_pt, pointK_steps] at c2
      obtain ⟨i, hi⟩ := line_pt hs.1 c1
      obtain ⟨j, hj⟩ := line_pt hs.1 c2
      exact ⟨i, j, fun e => ho.1 (by rw [hi, hj, e]), hi, hj⟩
where
  det_line {a b w : Pt} {g : Int} (h : w.1 * g = b.1 - a.1 ∧ w.2 * g = b.2 - a.2) (k : Int) : det a b (ptK a w k) = 0 := by
    unfold det ptK
    rw [← h.1, ← h.2]
    grind
/-- Two segments overlap exactly if they have a unit step in common. -/
theorem meet_un {s o : Pt × Pt} (hs : IsSegN s) (ho : IsSegN o) : (meetK s.1 s.2 o.1 o.2).1 = 3 ↔ ∃ u, u ∈ uns s ∧ u ∈ uns o := by
  have hc : (covK s o).isSome = true ↔ (meetK s.1 s.2 o.1 o.2).1 = 3 := by
    unfold covK
    split
    · rename_i h; simp [h]
    · rename_i h; simp [h]
  rw [← hc]
  rcases cov_is hs ho with ⟨x, y, e, h0, h1, h2, h⟩ | ⟨e, h⟩
  · rw [e]
    simp only [Option.isSome_some, true_iff]
    exact ⟨_, (mem_uns _).2 ⟨x, h0, by omega, rfl⟩, (over_un hs ho x).1 ((h x h0 (by omega)).2 ⟨by omega, h1⟩)⟩
  · rw [e]
    simp only [Option.isSome_none, Bool.false_eq_true, false_iff]
    rintro ⟨u, h1, h2⟩
    obtain ⟨k, h3, h4, rfl⟩ := (mem_uns u).1 h1
    exact h k h3 h4 ((over_un hs ho k).2 h2)
end Go.Proofs.YtkpnffokjpgalaaGreat
