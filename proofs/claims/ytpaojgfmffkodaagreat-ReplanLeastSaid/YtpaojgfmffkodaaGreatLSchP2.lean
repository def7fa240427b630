/- Layer 52: which schedules are valid (plain): every slot by itself, each two of them, and the open orders; prices do not depend on the order. -/
import Derived.Test.YtpaojgfmffkodaaGreatLSch26
import Derived.Test.YtpaojgfmffkodaaGreatLSch28
import Derived.Test.YtpaojgfmffkodaaGreatLSch32
namespace Go.Proofs.YtpaojgfmffkodaaGreat
set_option linter.unusedVariables false
set_option linter.unusedSimpArgs false
open Go.RowKit
theorem firstBad_iff {f : Nat → Int} : ∀ l, firstBad f l = none ↔ ∀ k ∈ l, f k = 0
  | [] => by simp [firstBad]
  | k :: l => by
    unfold firstBad
    by_cases h : f k = 0
    · rw [if_pos h, firstBad_iff l]; simp [h]
    · rw [if_neg h]; simp [h]
theorem firstBad_ne {f : Nat → Int} {i : Nat} {e : Int} : ∀ {l}, firstBad f l = some (i, e) → e ≠ 0
  | [], h => by cases h
  | k :: l, h => by
    unfold firstBad at h
    by_cases hk : f k = 0
    · rw [if_pos hk] at h; exact firstBad_ne h
    · rw [if_neg hk] at h
      injection h with h
      injection h with h1 h2
      rw [← h2]; exact hk
theorem validV_iff {s : ShopR} {L : List JobR} {l : List SlotR} : (validV s L l).2 = 0 ↔ (∀ k, k < l.length → fitE s L l k = 0) ∧ ∀ k, k < l.length → openE s L l k = 0 := by
  unfold validV
  cases h1 : firstBad (fitE s L l) (List.range l.length) with
  | some x =>
    obtain ⟨i, e⟩ := x
    refine ⟨fun h => absurd h (firstBad_ne h1), fun ⟨h, _⟩ => ?_⟩
    have := (firstBad_iff (f := fitE s L l) (List.range l.length)).2 (fun k hk => h k (by simpa using hk))
    rw [this] at h1; cases h1
  | none =>
    have g1 := (firstBad_iff _).1 h1
    cases h2 : firstBad (openE s L l) (List.range l.length) with
    | some x =>
      obtain ⟨i, e⟩ := x
      refine ⟨fun h => absurd h (firstBad_ne h2), fun ⟨_, h⟩ => ?_⟩
      have := (firstBad_iff (f := openE s L l) (List.range l.length)).2 (fun k hk => h k (by simpa using hk))
      rw [this] at h2; cases h2
    | none =>
      have g2 := (firstBad_iff _).1 h2
      exact ⟨fun _ => ⟨fun k hk => g1 k (by simpa using hk), fun k hk => g2 k (by simpa using hk)⟩, fun _ => rfl⟩
def sepB (s : ShopR) (L : List JobR) (x y : SlotR) : Bool := !(y.job == x.job) && !clashB s L x y
theorem slotE_iff {s : ShopR} {L : List JobR} {ahead : List SlotR} {x : SlotR} : slotE s L ahead x = 0 ↔ slotE s L [] x = 0 ∧ ∀ y ∈ ahead, sepB s L x y = true := by
  have h1 : (∀ y ∈ ahead, sepB s L x y = true) ↔ ahead.any (fun y => y.job == x.job) = false ∧ ahead.any (clashB s L x) = false := by
    simp only [List.any_eq_false, sepB, Bool.and_eq_true, Bool.not_eq_true']
    constructor
    · intro h; exact ⟨fun y hy => by rw [(h y hy).1]; simp, fun y hy => by rw [(h y hy).2]; simp⟩
    · intro h y hy
      have a := h.1 y hy
      have b := h.2 y hy
      exact ⟨by cases e : (y.job == x.job) <;> simp_all, by cases e : clashB s L x y <;> simp_all⟩
  rw [h1]
  unfold slotE
  simp only [List.any_nil]
  cases nameB s L x <;> cases (jobAt L x.job).ms.any (fun m => x.mach == m) <;> cases shiftB s L x <;> by_cases hr : x.start < (jobAt L x.job).rel <;> cases ahead.any (fun y => y.job == x.job) <;> cases ahead.any (clashB s L x) <;> simp [hr]
theorem getD_idx {l : List SlotR} {k : Nat} (h : k < l.length) : l.getD k noSlot = l[k] := getS_at h
def GoodS (s : ShopR) (L : List JobR) (l : List SlotR) : Prop := (∀ x ∈ l, slotE s L [] x = 0) ∧ l.Pairwise (fun a b => sepB s L b a = true) ∧ ∀ x ∈ l, openN L x.start l ≤ s.most
theorem fits_iff {s : ShopR} {L : List JobR} {l : List SlotR} : (∀ k, k < l.length → fitE s L l k = 0) ↔ (∀ x ∈ l, slotE s L [] x = 0) ∧ l.Pairwise (fun a b => sepB s L b a = true) := by
  rw [List.pairwise_iff_getElem]
  constructor
  · intro h
    refine ⟨fun x hx => ?_, fun i j hi hj hij => ?_⟩
    · obtain ⟨k, hk, rfl⟩ := List.getElem_of_mem hx
      have := h k hk
      unfold fitE at this
      rw [getD_idx hk] at this
      exact (slotE_iff.1 this).1
    · have := h j hj
      unfold fitE at this
      rw [getD_idx hj] at this
      refine (slotE_iff.1 this).2 _ ?_
      rw [List.mem_take_iff_getElem]
      exact ⟨i, by omega, rfl⟩
  · intro ⟨h1, h2⟩ k hk
    unfold fitE
    rw [getD_idx hk]
    refine slotE_iff.2 ⟨h1 _ (List.getElem_mem hk), fun y hy => ?_⟩
    rw [List.mem_take_iff_getElem] at hy
    obtain ⟨i, hi, rfl⟩ := hy
    exact h2 i k (by omega) hk (by omega)
theorem validV_good {s : ShopR} {L : List JobR} {l : List SlotR} : (validV s L l).2 = 0 ↔ GoodS s L l := by
  rw [validV_iff, fits_iff, and_assoc]
  unfold GoodS
  have : (∀ k, k < l.length → openE s L l k = 0) ↔ ∀ x ∈ l, openN L x.start l ≤ s.most := by
    constructor
    · intro h x hx
      obtain ⟨k, hk, rfl⟩ := List.getElem_of_mem hx
      have := h k hk
      unfold openE at this
      rw [getD_idx hk] at this
      split at this
      · cases this
      · omega
    · intro h k hk
      unfold openE
      rw [getD_idx hk]
      rw [if_neg (by have := h _ (List.getElem_mem hk); omega)]
  rw [this]
def withMost (s : ShopR) (m : Int) : ShopR := ⟨s.A, s.c, s.cals, s.B, s.d, s.rows, m⟩
theorem GoodS.most {s : ShopR} {L : List JobR} {l : List SlotR} (h : GoodS s L l) {m : Int} (hm : s.most ≤ m) : GoodS (withMost s m) L l :=
  ⟨h.1, h.2.1, fun x hx => Int.le_trans (h.2.2 x hx) hm⟩
theorem validT_zero {s : ShopR} {L : List JobR} {l : List SlotR} : (validT s L l).2 = 0 ↔ checkS s L = true ∧ GoodS s L l := by
  unfold validT
  by_cases h : checkS s L = true
  · rw [if_pos h, validV_good]; simp [h]
  · rw [if_neg h]; simp [h]
theorem good_named {s : ShopR} {L : List JobR} {l : List SlotR} (h : GoodS s L l) : NamedS s L l := fun x hx => named_of (h.1 x hx)
theorem found_le {a : Int} {p : Nat → Bool} {n : Nat} (h : (foundV a p n).2 = 0) : a ≤ (foundV a p n).1 ∧ (foundV a p n).1 < a + n := by
  unfold foundV at *
  by_cases hl : least p n < n
  · rw [if_pos hl]; simp only; omega
  · rw [if_neg hl] at h; cases h
theorem finish_le {P : Int} {S D : List (Int × Int)} {t k : Int} (h : (finishV P S D t k).2 = 0) : 0 ≤ t ∧ t ≤ (finishV P S D t k).1 ∧ (finishV P S D t k).1 ≤ 1000000 := by
  unfold finishV at *
  by_cases hc : (validB P S D && (timeB t && timeB k)) = true
  · rw [if_pos hc] at h ⊢
    simp only [Bool.and_eq_true] at hc
    have ht := hc.2.1
    unfold timeB at ht
    simp only [Bool.and_eq_true, decide_eq_true_eq] at ht
    have := found_le h
    omega
  · rw [if_neg hc] at h
    unfold errI at h
    exfalso
    revert h hc
    cases validB P S D <;> cases (timeB t && timeB k) <;> simp
theorem good_stop {s : ShopR} {L : List JobR} {l : List SlotR} (h : GoodS s L l) : ∀ x ∈ l, (0 ≤ x.job ∧ x.job < L.length) ∧ 0 ≤ x.stop ∧ x.stop ≤ 1000000 := by
  intro x hx
  have hn := nameB_iff.1 (good_named h x hx)
  refine ⟨hn.1, ?_⟩
  have := h.1 x hx
  have hs : shiftB s L x = true := by
    unfold slotE at this
    split at this
    · cases this
    · split at this
      · cases this
      · split at this
        · cases this
        · split at this
          · cases this
          · split at this
            · cases this
            · rename_i h; simpa using h
  unfold shiftB at hs
  simp only [Bool.and_eq_true, beq_iff_eq] at hs
  have := finish_le hs.2.1
  unfold finishAt at *
  rw [hs.2.2] at this
  omega
/-! Prices. -/
end Go.Proofs.YtpaojgfmffkodaaGreat
/- Layer 52 (plain): a problem whose calendars are always open, moved by d. -/
namespace Go.Proofs.YtpaojgfmffkodaaGreat
set_option linter.unusedVariables false
set_option linter.unusedSimpArgs false
open Go.RowKit
theorem jobAt_mem {L : List JobR} {j : Int} (h0 : 0 ≤ j) (h1 : j < L.length) : jobAt L j ∈ L := by
  obtain ⟨i, rfl⟩ : ∃ i : Nat, j = i := ⟨j.toNat, by omega⟩
  rw [jobAt_at (show i < L.length by omega)]
  exact List.getElem_mem _
theorem firstBad_congr {f g : Nat → Int} : ∀ {l : List Nat}, (∀ k ∈ l, f k = g k) → firstBad f l = firstBad g l
  | [], _ => rfl
  | k :: l, h => by unfold firstBad; rw [h k (by simp), firstBad_congr fun j hj => h j (by simp [hj])]
section
variable {s : ShopR} {L : List JobR} {d B : Int}
end
end Go.Proofs.YtpaojgfmffkodaaGreat
/- Layer 52 (plain): the problem of ScheduleLater: what the reference's check says, and the schedules of both lists. -/
namespace Go.Proofs.YtpaojgfmffkodaaGreat
set_option linter.unusedVariables false
set_option linter.unusedSimpArgs false
open Go.RowKit
theorem all_range_iff {f : Nat → Bool} {n : Nat} : (List.range n).all f = true ↔ ∀ k, k < n → f k = true := by
  rw [List.all_eq_true]
  exact ⟨fun h k hk => h k (by simpa using hk), fun h k hk => h k (by simpa using hk)⟩
theorem setups_cells {R : List RowR} (h : setupsR R = true) : (1 ≤ R.length ∧ R.length ≤ 8) ∧ sizesB R = true ∧ (∀ a k, a < R.length → k < R.length → 0 ≤ get2 R a k ∧ get2 R a k ≤ 1000) ∧ (∀ a, a < R.length → get2 R a a = 0) ∧ part2 R = true := by
  unfold setupsR at h
  simp only [Bool.and_eq_true, decide_eq_true_eq] at h
  obtain ⟨⟨h1, h2⟩, h3, h4⟩ := h
  have hrow : ∀ a, a < R.length → rowB R a = true := all_range_iff.1 h3
  refine ⟨by omega, ?_, ?_, ?_, h4⟩
  · unfold sizesB
    rw [List.all_eq_true]
    intro r hr
    obtain ⟨a, ha, rfl⟩ := List.getElem_of_mem hr
    have := part1_len h3 a ha
    simpa using this
  · intro a k ha hk
    have := hrow a ha
    unfold rowB at this
    rw [Bool.and_eq_true] at this
    have := all_range_iff.1 this.2 k hk
    unfold cellR at this
    simpa using this
  · intro a ha
    have := hrow a ha
    unfold rowB at this
    simp only [Bool.and_eq_true, beq_iff_eq] at this
    exact this.1.2
theorem setups_ok {R : List RowR} (h : setupsR R = true) : setupB R = true := by
  obtain ⟨-, -, h3, h4, h5⟩ := setups_cells h
  unfold setupB
  refine all_range_iff.2 fun a ha => ?_
  unfold lineB
  refine all_range_iff.2 fun c hc => ?_
  unfold cellB nearB
  have hn := h3 a c ha hc
  rw [show decide (0 ≤ get2 R a c) = true from decide_eq_true hn.1, show decide (get2 R a c ≤ 1000) = true from decide_eq_true hn.2]
  simp only [Bool.true_and, Bool.and_eq_true]
  constructor
  · by_cases e : a = c
    · subst e; rw [h4 a ha]; simp
    · simp [e]
  · refine all_range_iff.2 fun b hb => ?_
    unfold triB
    have := all_range_iff.1 (all_range_iff.1 (all_range_iff.1 h5 a ha) b hb) c hc
    unfold triR at this
    exact this
theorem setups_of {R : List RowR} (h : setupB R = true) (hs : sizesB R = true) (h1 : 1 ≤ R.length) (h8 : R.length ≤ 8) : setupsR R = true := by
  have hc : ∀ a c, a < R.length → c < R.length → cellB R a c = true := fun a c ha hc => all_range_iff.1 (all_range_iff.1 h a ha) c hc
  have hn : ∀ a c, a < R.length → c < R.length → 0 ≤ get2 R a c ∧ get2 R a c ≤ 1000 ∧ (a = c → get2 R a c = 0) := by
    intro a c ha hc'
    have := hc a c ha hc'
    unfold cellB nearB at this
    simp only [Bool.and_eq_true, decide_eq_true_eq, Bool.not_eq_true'] at this
    refine ⟨this.1.1.1, this.1.1.2, fun e => ?_⟩
    have h2 := this.1.2
    rw [e] at h2
    rw [e]
    simpa using h2
  have hl : ∀ a (ha : a < R.length), R[a].xs.length = R.length := fun a ha => by
    have := List.all_eq_true.1 hs R[a] (List.getElem_mem ha)
    simpa using this
  unfold setupsR part1 part2
  simp only [Bool.and_eq_true, decide_eq_true_eq]
  refine ⟨⟨by omega, by omega⟩, all_range_iff.2 fun a ha => ?_, all_range_iff.2 fun a ha => all_range_iff.2 fun b hb => all_range_iff.2 fun c hc' => ?_⟩
  · unfold rowB
    rw [lenAt_at ha, hl a ha, (hn a a ha ha).2.2 rfl]
    simp only [beq_self_eq_true, Bool.true_and]
    refine all_range_iff.2 fun k hk => ?_
    unfold cellR
    have := hn a k ha hk
    simp [this.1, this.2.1]
  · have := hc a c ha hc'
    unfold cellB at this
    rw [Bool.and_eq_true] at this
    exact all_range_iff.1 this.2 b hb
theorem jobR_eq (s : ShopR) (j : JobR) : jobR s j = jobB s j := by unfold jobR jobB; rw [Bool.and_comm]
theorem refCheck_eq (s : ShopR) (L : List JobR) : refCheckB s L = checkS s L := by
  rw [Bool.eq_iff_iff]
  unfold refCheckB headR checkS shopB headB
  simp only [Bool.and_eq_true, decide_eq_true_eq, Bool.not_eq_true', List.any_eq_false, List.all_eq_true]
  constructor
  · rintro ⟨⟨a1, a2, a3, a4, a5, a6⟩, b1, b2⟩
    obtain ⟨k1, k2, -⟩ := setups_cells a3
    exact ⟨⟨⟨⟨by omega, by omega⟩, b1, ⟨by omega, by omega⟩, a4, a5⟩, k2, setups_ok a3⟩, by omega, fun j hj => by have := b2 j hj; rw [jobR_eq] at this; simp [this]⟩
  · rintro ⟨⟨⟨⟨a1, a2⟩, b1, ⟨c1, c2⟩, a4, a5⟩, k2, k3⟩, a6, b2⟩
    exact ⟨⟨by omega, by omega, setups_of k3 k2 (by omega) (by omega), a4, a5, by omega⟩, b1, fun j hj => by have := b2 j hj; rw [jobR_eq]; simpa using this⟩
end Go.Proofs.YtpaojgfmffkodaaGreat
/- Layer 52 (the reference, plain): candidates and first fits, open orders, which schedules are valid. -/
namespace Go.Proofs.YtpaojgfmffkodaaGreat
set_option linter.unusedVariables false
set_option linter.unusedSimpArgs false
open Go.RowKit
theorem errI_zero {v c : Bool} (h : errI v c = 0) : (v && c) = true := by
  revert h
  unfold errI
  cases v <;> cases c <;> simp
theorem found_least {a : Int} {p : Nat → Bool} {n i : Nat} (hi : i < n) (hp : p i = true) : (foundV a p n).2 = 0 ∧ (foundV a p n).1 ≤ a + i := by
  obtain ⟨k1, k2, k3⟩ := least_spec p n
  have hl : least p n ≤ i := by
    rcases Nat.lt_or_ge i (least p n) with h | h
    · rw [k2 i h] at hp; cases hp
    · exact h
  unfold foundV
  rw [if_pos (by omega)]
  exact ⟨rfl, by simp only; omega⟩
theorem found_some {a : Int} {p : Nat → Bool} {n : Nat} (h : (foundV a p n).2 = 0) : ∃ i, i < n ∧ p i = true ∧ (foundV a p n).1 = a + i := by
  obtain ⟨k1, k2, k3⟩ := least_spec p n
  unfold foundV at *
  by_cases hl : least p n < n
  · rw [if_pos hl]
    exact ⟨_, hl, k3 hl, rfl⟩
  · rw [if_neg hl] at h; cases h
theorem next_ok {P : Int} {S D : List (Int × Int)} {t : Int} (h : (nextV P S D t).2 = 0) : (validB P S D && timeB t) = true ∧ nextV P S D t = foundV t (fun i => openI P S D (t + i)) (1000001 - t).toNat := by
  unfold nextV at *
  by_cases hc : (validB P S D && timeB t) = true
  · rw [if_pos hc]; exact ⟨hc, rfl⟩
  · rw [if_neg hc] at h
    exact absurd (errI_zero h) hc
theorem finish_ok {P : Int} {S D : List (Int × Int)} {t k : Int} (h : (finishV P S D t k).2 = 0) : (validB P S D && (timeB t && timeB k)) = true ∧ finishV P S D t k = foundV t (fun i => decide (k ≤ cnt (openI P S D) t i)) (1000001 - t).toNat := by
  unfold finishV at *
  by_cases hc : (validB P S D && (timeB t && timeB k)) = true
  · rw [if_pos hc]; exact ⟨hc, rfl⟩
  · rw [if_neg hc] at h
    exact absurd (errI_zero h) hc
theorem next_mono {P : Int} {S D : List (Int × Int)} {t u : Int} (h : (nextV P S D u).2 = 0) (h0 : 0 ≤ t) (htu : t ≤ u) : (nextV P S D t).2 = 0 ∧ t ≤ (nextV P S D t).1 ∧ (nextV P S D t).1 ≤ (nextV P S D u).1 := by
  obtain ⟨hc, e⟩ := next_ok h
  rw [e] at h
  obtain ⟨i, hi, hp, hv⟩ := found_some h
  rw [Bool.and_eq_true, timeB_iff] at hc
  have ht : (validB P S D && timeB t) = true := by rw [Bool.and_eq_true, timeB_iff]; exact ⟨hc.1, by omega, by omega⟩
  have e2 : nextV P S D t = foundV t (fun i => openI P S D (t + i)) (1000001 - t).toNat := by unfold nextV; rw [if_pos ht]
  have hpt : openI P S D (t + (((u - t).toNat + i : Nat) : Int)) = true := by
    rw [show t + (((u - t).toNat + i : Nat) : Int) = u + i by omega]
    exact hp
  have hfl := found_least (a := t) (p := fun i => openI P S D (t + i)) (n := (1000001 - t).toNat) (i := (u - t).toNat + i) (by omega) hpt
  rw [e2, e, hv]
  have := (found_le hfl.1).1
  exact ⟨hfl.1, this, by omega⟩
theorem finish_mono {P : Int} {S D : List (Int × Int)} {t u k : Int} (h : (finishV P S D u k).2 = 0) (h0 : 0 ≤ t) (htu : t ≤ u) : (finishV P S D t k).2 = 0 ∧ (finishV P S D t k).1 ≤ (finishV P S D u k).1 := by
  obtain ⟨hc, e⟩ := finish_ok h
  rw [e] at h
  obtain ⟨i, hi, hp, hv⟩ := found_some h
  rw [Bool.and_eq_true, Bool.and_eq_true, timeB_iff] at hc
  have ht : (validB P S D && (timeB t && timeB k)) = true := by rw [Bool.and_eq_true, Bool.and_eq_true, timeB_iff]; exact ⟨hc.1, ⟨by omega, by omega⟩, hc.2.2⟩
  have e2 : finishV P S D t k = foundV t (fun i => decide (k ≤ cnt (openI P S D) t i)) (1000001 - t).toNat := by unfold finishV; rw [if_pos ht]
  have hpt : decide (k ≤ cnt (openI P S D) t ((u - t).toNat + i)) = true := by
    rw [decide_eq_true_eq] at hp ⊢
    rw [cnt_add, show t + ((u - t).toNat : Int) = u by omega]
    have := (cnt_bounds (openI P S D) t (u - t).toNat).1
    omega
  have hfl := found_least (a := t) (p := fun i => decide (k ≤ cnt (openI P S D) t i)) (n := (1000001 - t).toNat) (i := (u - t).toNat + i) (by omega) hpt
  rw [e2, e, hv]
  exact ⟨hfl.1, by omega⟩
def slotAt (s : ShopR) (L : List JobR) (jb m u : Int) : SlotR := ⟨jb, m, u, (finishAt s m u (jobAt L jb).dur).1⟩
def fitsB (s : ShopR) (L : List JobR) (l : List SlotR) (jb m u : Int) : Bool := (finishAt s m u (jobAt L jb).dur).2 == 0 && (validV s L (l ++ [slotAt s L jb m u])).2 == 0
def startsL (s : ShopR) (m : Int) : List Int → List Int
  | [] => []
  | t :: r => if (nextAt s m t).2 = 0 then (nextAt s m t).1 :: startsL s m r else startsL s m r
theorem mem_startsL {s : ShopR} {m u : Int} : ∀ {ts : List Int}, u ∈ startsL s m ts ↔ ∃ t ∈ ts, (nextAt s m t).2 = 0 ∧ u = (nextAt s m t).1
  | [] => by simp [startsL]
  | t :: r => by
    unfold startsL
    by_cases h : (nextAt s m t).2 = 0
    · rw [if_pos h, List.mem_cons, mem_startsL (ts := r)]
      constructor
      · rintro (rfl | ⟨t', h1, h2⟩)
        · exact ⟨t, by simp, h, rfl⟩
        · exact ⟨t', by simp [h1], h2⟩
      · rintro ⟨t', h1, h2, h3⟩
        rcases List.mem_cons.1 h1 with rfl | h1
        · exact .inl h3
        · exact .inr ⟨t', h1, h2, h3⟩
    · rw [if_neg h, mem_startsL (ts := r)]
      constructor
      · rintro ⟨t', h1, h2⟩; exact ⟨t', by simp [h1], h2⟩
      · rintro ⟨t', h1, h2, h3⟩
        rcases List.mem_cons.1 h1 with rfl | h1
        · exact absurd h2 h
        · exact ⟨t', h1, h2, h3⟩
theorem startsL_sorted {s : ShopR} {m : Int} : ∀ {ts : List Int}, ts.Pairwise (· ≤ ·) → (∀ t ∈ ts, 0 ≤ t) → (startsL s m ts).Pairwise (· ≤ ·)
  | [], _, _ => by simp [startsL]
  | t :: r, h, h0 => by
    obtain ⟨h1, h2⟩ := List.pairwise_cons.1 h
    have ih := startsL_sorted (s := s) (m := m) h2 fun t ht => h0 t (by simp [ht])
    unfold startsL
    by_cases hn : (nextAt s m t).2 = 0
    · rw [if_pos hn]
      refine List.pairwise_cons.2 ⟨fun u hu => ?_, ih⟩
      obtain ⟨t', ht', e1, rfl⟩ := mem_startsL.1 hu
      exact (next_mono e1 (h0 t (by simp)) (h1 t' ht')).2.2
    · rw [if_neg hn]; exact ih
theorem find_none {α : Type} {p : α → Bool} : ∀ {l : List α}, (∀ x ∈ l, p x = false) → l.find? p = none
  | [], _ => rfl
  | a :: r, h => by rw [List.find?_cons, h a (by simp)]; exact find_none fun x hx => h x (by simp [hx])
theorem firstFit_find {s : ShopR} {L : List JobR} {l : List SlotR} {jb m : Int} : ∀ {ts : List Int}, ts.Pairwise (· ≤ ·) → (∀ t ∈ ts, 0 ≤ t) → firstFit s L l jb m ts = ((startsL s m ts).find? (fitsB s L l jb m)).map (slotAt s L jb m)
  | [], _, _ => rfl
  | t :: r, h, h0 => by
    obtain ⟨h1, h2⟩ := List.pairwise_cons.1 h
    have ih := firstFit_find (s := s) (L := L) (l := l) (jb := jb) (m := m) h2 fun t ht => h0 t (by simp [ht])
    have ht0 := h0 t (by simp)
    unfold firstFit startsL
    by_cases hn : (nextAt s m t).2 = 0
    · rw [if_pos hn, if_pos hn, List.find?_cons]
      have hn0 : 0 ≤ (nextAt s m t).1 := by have h9 : t ≤ (nextAt s m t).1 := (next_mono hn ht0 (Int.le_refl t)).2.1; omega
      by_cases hf : (finishAt s m (nextAt s m t).1 (jobAt L jb).dur).2 = 0
      · rw [if_pos hf]
        by_cases hv : (validV s L (l ++ [⟨jb, m, (nextAt s m t).1, (finishAt s m (nextAt s m t).1 (jobAt L jb).dur).1⟩])).2 = 0
        · rw [if_pos hv, show fitsB s L l jb m (nextAt s m t).1 = true by unfold fitsB slotAt; rw [hf, hv]; rfl]
          rfl
        · rw [if_neg hv, show fitsB s L l jb m (nextAt s m t).1 = false by unfold fitsB slotAt; rw [hf]; simpa using hv]
          exact ih
      · rw [if_neg hf, show fitsB s L l jb m (nextAt s m t).1 = false by unfold fitsB; rw [show ((finishAt s m (nextAt s m t).1 (jobAt L jb).dur).2 == 0) = false by simpa using hf]; rfl]
        simp only
        rw [find_none]
        · rfl
        · intro u hu
          obtain ⟨t', ht', e1, rfl⟩ := mem_startsL.1 hu
          have hle := (next_mono e1 ht0 (h1 t' ht')).2.2
          unfold fitsB
          by_cases q : (finishAt s m (nextAt s m t').1 (jobAt L jb).dur).2 = 0
          · exact absurd (finish_mono q hn0 hle).1 hf
          · rw [show ((finishAt s m (nextAt s m t').1 (jobAt L jb).dur).2 == 0) = false by simpa using q]; rfl
    · rw [if_neg hn, if_neg hn]
      have : startsL s m r = [] := by
        cases q : startsL s m r with
        | nil => rfl
        | cons u r' =>
          obtain ⟨t', ht', e1, -⟩ := mem_startsL.1 (show u ∈ startsL s m r by rw [q]; simp)
          exact absurd (next_mono e1 ht0 (h1 t' ht')).1 hn
      rw [this]
      rfl
def insU (t : Int) : List Int → List Int
  | [] => [t]
  | y :: r => if y < t then y :: insU t r else if y = t then y :: r else t :: y :: r
theorem mem_insU {t u : Int} : ∀ {l : List Int}, u ∈ insU t l ↔ u = t ∨ u ∈ l
  | [] => by simp [insU]
  | y :: r => by
    unfold insU
    split
    · rw [List.mem_cons, mem_insU (l := r), List.mem_cons]
      constructor
      · rintro (h | h | h)
        · exact .inr (.inl h)
        · exact .inl h
        · exact .inr (.inr h)
      · rintro (h | h | h)
        · exact .inr (.inl h)
        · exact .inl h
        · exact .inr (.inr h)
    · split
      · rename_i h
        constructor
        · exact .inr
        · rintro (rfl | q)
          · rw [← h]; simp
          · exact q
      · simp
theorem insU_sorted {t : Int} : ∀ {l : List Int}, l.Pairwise (· < ·) → (insU t l).Pairwise (· < ·)
  | [], _ => by simp [insU]
  | y :: r, h => by
    obtain ⟨h1, h2⟩ := List.pairwise_cons.1 h
    unfold insU
    split
    · refine List.pairwise_cons.2 ⟨fun u hu => ?_, insU_sorted h2⟩
      rcases mem_insU.1 hu with rfl | hu
      · assumption
      · exact h1 u hu
    · split
      · exact h
      · refine List.pairwise_cons.2 ⟨fun u hu => ?_, h⟩
        rcases List.mem_cons.1 hu with rfl | hu
        · omega
        · have := h1 u hu; omega
def candStep (s : ShopR) (m : Int) (out : List Int) (t : Int) : List Int := if (nextAt s m t).2 = 0 then insU (nextAt s m t).1 out else out
def candL (s : ShopR) (m : Int) (ts : List Int) : List Int := ts.foldl (candStep s m) []
theorem candF_spec {s : ShopR} {m : Int} : ∀ {ts out : List Int}, out.Pairwise (· < ·) → (ts.foldl (candStep s m) out).Pairwise (· < ·) ∧ ∀ u, u ∈ ts.foldl (candStep s m) out ↔ u ∈ out ∨ u ∈ startsL s m ts
  | [], out, h => ⟨h, fun u => by simp [startsL]⟩
  | t :: r, out, h => by
    rw [List.foldl_cons]
    unfold startsL
    by_cases hn : (nextAt s m t).2 = 0
    · have hs : candStep s m out t = insU (nextAt s m t).1 out := by unfold candStep; rw [if_pos hn]
      obtain ⟨a, b⟩ := candF_spec (s := s) (m := m) (ts := r) (out := candStep s m out t) (by rw [hs]; exact insU_sorted h)
      refine ⟨a, fun u => ?_⟩
      rw [b u, hs, mem_insU, if_pos hn, List.mem_cons]
      constructor
      · rintro ((h | h) | h)
        · exact .inr (.inl h)
        · exact .inl h
        · exact .inr (.inr h)
      · rintro (h | h | h)
        · exact .inl (.inr h)
        · exact .inl (.inl h)
        · exact .inr h
    · have hs : candStep s m out t = out := by unfold candStep; rw [if_neg hn]
      rw [hs, if_neg hn]
      exact candF_spec h
theorem candL_sorted (s : ShopR) (m : Int) (ts : List Int) : (candL s m ts).Pairwise (· < ·) := (candF_spec (by simp)).1
theorem mem_candL {s : ShopR} {m u : Int} {ts : List Int} : u ∈ candL s m ts ↔ u ∈ startsL s m ts := by
  have := (candF_spec (s := s) (m := m) (ts := ts) (out := []) (by simp)).2 u
  unfold candL
  rw [this]
  simp
theorem find_least {p : Int → Bool} : ∀ {l : List Int}, l.Pairwise (· ≤ ·) → ∀ {u}, l.find? p = some u ↔ (u ∈ l ∧ p u = true ∧ ∀ v ∈ l, p v = true → u ≤ v)
  | [], _, u => by simp
  | a :: r, h, u => by
    obtain ⟨h1, h2⟩ := List.pairwise_cons.1 h
    rw [List.find?_cons]
    cases hp : p a
    · simp only
      rw [find_least h2]
      constructor
      · rintro ⟨q1, q2, q3⟩
        exact ⟨by simp [q1], q2, fun v hv hpv => by
          rcases List.mem_cons.1 hv with rfl | hv
          · rw [hp] at hpv; cases hpv
          · exact q3 v hv hpv⟩
      · rintro ⟨q1, q2, q3⟩
        rcases List.mem_cons.1 q1 with rfl | q1
        · rw [hp] at q2; cases q2
        · exact ⟨q1, q2, fun v hv hpv => q3 v (by simp [hv]) hpv⟩
    · simp only [Option.some.injEq]
      constructor
      · rintro rfl
        exact ⟨by simp, hp, fun v hv hpv => by
          rcases List.mem_cons.1 hv with rfl | hv
          · exact Int.le_refl _
          · exact h1 v hv⟩
      · rintro ⟨q1, q2, q3⟩
        rcases List.mem_cons.1 q1 with rfl | q1
        · rfl
        · have := h1 u q1
          have := q3 a (by simp) hp
          omega
theorem find_same {p : Int → Bool} {l m : List Int} (hl : l.Pairwise (· ≤ ·)) (hm : m.Pairwise (· ≤ ·)) (h : ∀ u, u ∈ l ↔ u ∈ m) : l.find? p = m.find? p := by
  cases q : m.find? p with
  | none =>
    refine find_none fun x hx => ?_
    have := List.find?_eq_none.1 q x ((h x).1 hx)
    simpa using this
  | some u =>
    obtain ⟨a, b, c⟩ := (find_least hm).1 q
    exact (find_least hl).2 ⟨(h u).2 a, b, fun v hv hp => c v ((h v).1 hv) hp⟩
theorem firstFit_cand {s : ShopR} {L : List JobR} {l : List SlotR} {jb m : Int} {ts : List Int} (h0 : ∀ t ∈ ts, 0 ≤ t) : firstFit s L l jb m (sortI ts) = ((candL s m ts).find? (fitsB s L l jb m)).map (slotAt s L jb m) := by
  have hm : ∀ t, t ∈ sortI ts ↔ t ∈ ts := fun t => (sortI_perm ts).mem_iff
  have h1 : ∀ t ∈ sortI ts, 0 ≤ t := fun t ht => h0 t ((hm t).1 ht)
  rw [firstFit_find (sortI_sorted ts) h1]
  congr 1
  refine find_same (startsL_sorted (sortI_sorted ts) h1) ((candL_sorted s m ts).imp (fun h => Int.le_of_lt h)) fun u => ?_
  rw [mem_candL, mem_startsL, mem_startsL]
  constructor
  · rintro ⟨t, ht, q⟩; exact ⟨t, (hm t).1 ht, q⟩
  · rintro ⟨t, ht, q⟩; exact ⟨t, (hm t).2 ht, q⟩
def candV (s : ShopR) (L : List JobR) (l : List SlotR) (jb m : Int) : List Int := match beginV s L jb m (jobAt L jb).rel l with
  | none => []
  | some b => candL s m (b :: endsOf b l)
theorem begin_ge {s : ShopR} {L : List JobR} {jb m : Int} : ∀ {l : List SlotR} {b0 b : Int}, beginV s L jb m b0 l = some b → b0 ≤ b
  | [], b0, b, h => by unfold beginV at h; injection h with h; omega
  | x :: r, b0, b, h => by
    unfold beginV at h
    split at h
    · split at h
      · have := begin_ge h
        rw [imax_eq] at this
        omega
      · cases h
    · exact begin_ge h
theorem onV_cand {s : ShopR} {L : List JobR} {l : List SlotR} {jb m : Int} (hr : 0 ≤ (jobAt L jb).rel) : onV s L l jb m = ((candV s L l jb m).find? (fitsB s L l jb m)).map (slotAt s L jb m) := by
  unfold onV candV
  cases hb : beginV s L jb m (jobAt L jb).rel l with
  | none => rfl
  | some b =>
    simp only
    have h1 := begin_ge hb
    refine firstFit_cand fun t ht => ?_
    rcases List.mem_cons.1 ht with rfl | ht
    · omega
    · unfold endsOf at ht
      obtain ⟨y, hy, rfl⟩ := List.mem_map.1 ht
      have := (List.mem_filter.1 hy).2
      simp at this
      omega
theorem fold_from {s : ShopR} {L : List JobR} {l : List SlotR} {jb : Int} (Q : SlotR → Prop) (hq : ∀ m x, onV s L l jb m = some x → Q x) : ∀ (ms : List Int) (b : Option SlotR), (∀ x, b = some x → Q x) → ∀ x, ms.foldl (fun best m => betterS best (onV s L l jb m)) b = some x → Q x
  | [], b, hb, x, hx => hb x hx
  | m :: ms, b, hb, x, hx => by
    rw [List.foldl_cons] at hx
    refine fold_from Q hq ms _ (fun y hy => ?_) x hx
    unfold betterS at hy
    cases ho : onV s L l jb m with
    | none => rw [ho] at hy; exact hb y hy
    | some z =>
      rw [ho] at hy
      cases b with
      | none => simp at hy; rw [← hy]; exact hq m z ho
      | some c =>
        simp only at hy
        split at hy
        · injection hy with hy; rw [← hy]; exact hq m z ho
        · exact hb y hy
theorem dispatch_valid {s : ShopR} {L : List JobR} {l : List SlotR} {jb : Int} (hr : 0 ≤ (jobAt L jb).rel) {x : SlotR} (h : dispatchV s L l jb = some x) : (validV s L (l ++ [x])).2 = 0 := by
  refine fold_from (fun x => (validV s L (l ++ [x])).2 = 0) (fun m x hx => ?_) _ none (fun x hx => by cases hx) x h
  rw [onV_cand hr] at hx
  cases q : (candV s L l jb m).find? (fitsB s L l jb m) with
  | none => rw [q] at hx; cases hx
  | some u =>
    rw [q] at hx
    simp only [Option.map_some, Option.some.injEq] at hx
    have := List.find?_some q
    unfold fitsB at this
    rw [Bool.and_eq_true, beq_iff_eq, beq_iff_eq] at this
    rw [← hx]
    exact this.2
end Go.Proofs.YtpaojgfmffkodaaGreat
/- Layer 52 (the reference, plain): its slots, open orders and valid schedules are the program's. -/
namespace Go.Proofs.YtpaojgfmffkodaaGreat
set_option linter.unusedVariables false
set_option linter.unusedSimpArgs false
open Go.RowKit
def followsR (s : ShopR) (L : List JobR) (x y : SlotR) : Bool := !decide (y.start < x.stop) && decide (setupAt s L x.job y.job ≤ (workAt s x.mach x.stop y.start).1)
def clashR (s : ShopR) (L : List JobR) (x y : SlotR) : Bool := (y.mach == x.mach) && (!followsR s L x y && !followsR s L y x)
def slotR (s : ShopR) (L : List JobR) (ahead : List SlotR) (x : SlotR) : Int :=
  if nameB s L x = false then 6 else if ahead.any (fun y => y.job == x.job) = true then 7 else if (jobAt L x.job).ms.any (fun m => m == x.mach) = false then 25 else if x.start < (jobAt L x.job).rel then 22 else
  if shiftB s L x = false then 26 else if ahead.any (clashR s L x) = true then 27 else 0
def TimesOk (s : ShopR) (x : SlotR) : Prop := validB (calAt s x.mach).P (calAt s x.mach).S (calAt s x.mach).D = true ∧ 0 ≤ x.start ∧ x.start ≤ 1000000 ∧ 0 ≤ x.stop ∧ x.stop ≤ 1000000
theorem shift_times {s : ShopR} {L : List JobR} {x : SlotR} (h : shiftB s L x = true) : TimesOk s x := by
  unfold shiftB at h
  rw [Bool.and_eq_true, Bool.and_eq_true, beq_iff_eq, beq_iff_eq] at h
  obtain ⟨h1, h2, h3⟩ := h
  unfold openAt openV at h1
  rw [Bool.and_eq_true, Bool.and_eq_true] at h1
  obtain ⟨⟨v, t⟩, -⟩ := h1
  rw [timeB_iff] at t
  unfold finishAt at h2 h3
  obtain ⟨c, e⟩ := finish_ok h2
  rw [e] at h2 h3
  have := found_le h2
  exact ⟨v, t.1, t.2, by omega, by omega⟩
theorem good_times {s : ShopR} {L : List JobR} {x : SlotR} (h : slotE s L [] x = 0) : TimesOk s x := by
  refine shift_times (L := L) ?_
  cases q : shiftB s L x
  · unfold slotE at h
    rw [q] at h
    revert h
    cases nameB s L x <;> cases (jobAt L x.job).ms.any (fun m => x.mach == m) <;> by_cases hr : x.start < (jobAt L x.job).rel <;> simp [hr]
  · rfl
theorem followsR_eq {s : ShopR} {L : List JobR} {x y : SlotR} (hx : TimesOk s x) (hy : TimesOk s y) : followsR s L x y = followsB s L x y := by
  unfold followsR followsB
  by_cases h : y.start < x.stop
  · simp [h]
  · obtain ⟨v, -, -, a, -⟩ := hx
    obtain ⟨-, -, b, -, -⟩ := hy
    have hc : checkB x.stop y.start = true := by unfold checkB; simp; omega
    have : (workAt s x.mach x.stop y.start).2 = 0 := by unfold workAt workV; rw [v, hc]; rfl
    rw [this]
    simp
theorem clashR_eq {s : ShopR} {L : List JobR} {x y : SlotR} (hx : TimesOk s x) (hy : TimesOk s y) : clashR s L x y = clashB s L x y := by
  unfold clashR clashB
  rw [followsR_eq hx hy, followsR_eq hy hx, Bool.and_comm (!followsB s L x y)]
theorem any_congr {α : Type} {p q : α → Bool} : ∀ {l : List α}, (∀ x ∈ l, p x = q x) → l.any p = l.any q
  | [], _ => rfl
  | a :: r, h => by rw [List.any_cons, List.any_cons, h a (by simp), any_congr fun x hx => h x (by simp [hx])]
theorem slotR_eq {s : ShopR} {L : List JobR} {ahead : List SlotR} {x : SlotR} (ha : ∀ y ∈ ahead, slotE s L [] y = 0) : slotR s L ahead x = slotE s L ahead x := by
  unfold slotR slotE
  rw [any_congr (l := (jobAt L x.job).ms) (p := fun m => m == x.mach) (q := fun m => x.mach == m) fun m _ => Bool.beq_comm]
  cases q : shiftB s L x
  · rfl
  · rw [any_congr (l := ahead) (p := clashR s L x) (q := clashB s L x) fun y hy => clashR_eq (shift_times q) (good_times (ha y hy))]
def ordK (L : List JobR) (l : List SlotR) (k : Nat) : Int := ordAt L (l.getD k noSlot)
def firstN (L : List JobR) (l : List SlotR) (k i : Nat) : Bool := (List.range i).all fun a => !(ordK L l a == ordK L l k) || decide (k ≤ a)
def begunI (L : List JobR) (t : Int) (l : List SlotR) (o : Int) : Bool := l.any fun x => ordAt L x == o && decide (x.start ≤ t)
def runI (L : List JobR) (t : Int) (l : List SlotR) (o : Int) : Bool := l.any fun x => ordAt L x == o && decide (t < x.stop)
def stepR (L : List JobR) (t : Int) (l : List SlotR) (k : Nat) : Bool := firstN L l k l.length && (begunI L t l (ordK L l k) && runI L t l (ordK L l k))
def openTR (L : List JobR) (t : Int) (l : List SlotR) (n : Nat) : Int := ((List.range n).countP (stepR L t l) : Nat)
def openR (L : List JobR) (t : Int) (l : List SlotR) : Int := openTR L t l l.length
theorem openTR_succ (L : List JobR) (t : Int) (l : List SlotR) (n : Nat) : openTR L t l (n + 1) = openTR L t l n + (if stepR L t l n = true then 1 else 0) := by
  unfold openTR; rw [List.range_succ, List.countP_append]
  simp only [List.countP_singleton]
  split <;> simp
theorem openTR_le (L : List JobR) (t : Int) (l : List SlotR) (n : Nat) : 0 ≤ openTR L t l n ∧ openTR L t l n ≤ n := by
  unfold openTR
  have := List.countP_le_length (p := stepR L t l) (l := List.range n)
  rw [List.length_range] at this
  omega
theorem firstN_iff {L : List JobR} {l : List SlotR} {k n : Nat} (hk : k ≤ n) : firstN L l k n = !(List.range k).any (fun a => ordK L l a == ordK L l k) := by
  rw [Bool.eq_iff_iff]
  unfold firstN
  simp only [List.all_eq_true, List.mem_range, Bool.or_eq_true, Bool.not_eq_true', decide_eq_true_eq, List.any_eq_false]
  constructor
  · intro h a ha
    rcases h a (by omega) with h | h
    · rw [h]; simp
    · omega
  · intro h a ha
    by_cases q : a < k
    · have := h a q
      left
      simpa using this
    · right; omega
theorem count_firsts {L : List JobR} {l : List SlotR} (f : Int → Bool) (h : ∀ k, k < l.length → 0 ≤ ordK L l k ∧ ordK L l k ≤ 1000) : ∀ n, n ≤ l.length →
    (List.range n).countP (fun k => firstN L l k l.length && f (ordK L l k)) = (List.range 1001).countP (fun o => (List.range n).any (fun a => ordK L l a == ((o : Nat) : Int)) && f o)
  | 0, _ => by simp
  | n + 1, hn => by
    rw [List.range_succ, List.countP_append, count_firsts f h n (by omega), List.countP_singleton]
    obtain ⟨h0, h1⟩ := h n (by omega)
    rw [firstN_iff (k := n) (n := l.length) (by omega)]
    generalize hA : (fun o : Int => (List.range n).any (fun a => ordK L l a == o)) = A
    have e1 : ∀ o : Int, (List.range n).any (fun a => ordK L l a == o) = A o := fun o => by rw [← hA]
    have e2 : ∀ o : Nat, (List.range n ++ [n]).any (fun a => ordK L l a == (o : Int)) = (A o || ordK L l n == (o : Int)) := fun o => by rw [List.any_append, e1]; simp
    simp only [e1, e2]
    obtain ⟨i, hi⟩ : ∃ i : Nat, ordK L l n = i := ⟨(ordK L l n).toNat, by omega⟩
    rw [hi]
    have hil : i < 1001 := by omega
    cases hf : f i
    · rw [Bool.and_false, if_neg (by simp), Nat.add_zero]
      refine List.countP_congr fun o ho => ?_
      by_cases q : i = o
      · subst q; rw [hf]; simp
      · rw [show ((i : Int) == (o : Int)) = false from by simp; omega, Bool.or_false]
    · rw [Bool.and_true]
      have e3 : (List.range 1001).countP (fun o : Nat => (A o || ((i : Int) == (o : Int))) && f o) = (List.range 1001).countP (fun o : Nat => (A o && f o) || ((i : Int) == (o : Int))) := by
        refine List.countP_congr fun o ho => ?_
        by_cases q : i = o
        · subst q; rw [hf]; simp
        · rw [show ((i : Int) == (o : Int)) = false from by simp; omega, Bool.or_false, Bool.or_false]
      rw [e3, cnt_set (fun o : Nat => A o && f o) i 1001, hf, Bool.and_true]
      cases A i <;> simp [hil]
theorem openR_eq {L : List JobR} {t : Int} {l : List SlotR} (h : ∀ x ∈ l, 0 ≤ ordAt L x ∧ ordAt L x ≤ 1000) : openR L t l = openN L t l := by
  have hk : ∀ k, k < l.length → 0 ≤ ordK L l k ∧ ordK L l k ≤ 1000 := fun k hk => by unfold ordK; rw [getS_at hk]; exact h _ (List.getElem_mem hk)
  have := count_firsts (L := L) (l := l) (fun o => begunI L t l o && runI L t l o) hk l.length (Nat.le_refl _)
  unfold openR openTR openN openTo
  have e : (List.range l.length).countP (stepR L t l) = (List.range l.length).countP (fun k => firstN L l k l.length && (begunI L t l (ordK L l k) && runI L t l (ordK L l k))) := rfl
  rw [e, this]
  refine congrArg (fun n : Nat => (n : Int)) (List.countP_congr fun o ho => ?_)
  have e1 : begunB L t l o = begunI L t l o := rfl
  have e2 : unfinB L t l o = runI L t l o := rfl
  rw [e1, e2]
  constructor
  · intro q; rw [Bool.and_eq_true] at q; exact q.2
  · intro q
    rw [Bool.and_eq_true]
    refine ⟨?_, q⟩
    rw [Bool.and_eq_true] at q
    have q1 := q.1
    unfold begunI at q1
    rw [List.any_eq_true] at q1
    obtain ⟨x, hx, hp⟩ := q1
    rw [Bool.and_eq_true] at hp
    obtain ⟨k, hk, rfl⟩ := List.getElem_of_mem hx
    rw [List.any_eq_true]
    exact ⟨k, by simpa using hk, by unfold ordK; rw [getS_at hk]; exact hp.1⟩
def fitR (s : ShopR) (L : List JobR) (l : List SlotR) (k : Nat) : Int := slotR s L (l.take k) (l.getD k noSlot)
def openRE (s : ShopR) (L : List JobR) (l : List SlotR) (k : Nat) : Int := if s.most < openR L (l.getD k noSlot).start l then 28 else 0
def validR (s : ShopR) (L : List JobR) (l : List SlotR) : Int × Int :=
  match firstBad (fitR s L l) (List.range l.length) with
  | some (i, e) => (i, e)
  | none => match firstBad (openRE s L l) (List.range l.length) with
    | some (i, e) => (i, e)
    | none => (l.length, 0)
theorem firstBad_same {f g : Nat → Int} {n : Nat} (h : ∀ k, k < n → (∀ j, j < k → g j = 0) → f k = g k) : ∀ m k, n - k = m → (∀ j, j < k → g j = 0) → firstBad f ((List.range n).drop k) = firstBad g ((List.range n).drop k)
  | 0, k, hm, h0 => by
    rw [List.drop_eq_nil_of_le (by simp; omega)]
    rfl
  | m + 1, k, hm, h0 => by
    have hk : k < n := by omega
    rw [firstBad_drop _ hk, firstBad_drop _ hk, h k hk h0]
    by_cases q : g k = 0
    · rw [if_pos q, if_pos q]
      refine firstBad_same h m (k + 1) (by omega) fun j hj => ?_
      by_cases e : j = k
      · rw [e]; exact q
      · exact h0 j (by omega)
    · rw [if_neg q, if_neg q]
theorem validR_eq {s : ShopR} {L : List JobR} {l : List SlotR} (hord : ∀ j ∈ L, 0 ≤ j.ord ∧ j.ord ≤ 1000) : validR s L l = validV s L l := by
  have e1 : firstBad (fitR s L l) (List.range l.length) = firstBad (fitE s L l) (List.range l.length) := by
    refine firstBad_same (n := l.length) (fun k hk h0 => ?_) l.length 0 rfl (fun j hj => by omega)
    unfold fitR fitE
    refine slotR_eq fun y hy => ?_
    rw [List.mem_take_iff_getElem] at hy
    obtain ⟨i, hi, rfl⟩ := hy
    have := h0 i (by omega)
    unfold fitE at this
    rw [getS_at (by omega)] at this
    exact (slotE_iff.1 this).1
  unfold validR validV
  rw [e1]
  cases q : firstBad (fitE s L l) (List.range l.length) with
  | some x => rfl
  | none =>
    have hz := (firstBad_iff _).1 q
    have hg : ∀ x ∈ l, 0 ≤ ordAt L x ∧ ordAt L x ≤ 1000 := by
      intro x hx
      obtain ⟨k, hk, rfl⟩ := List.getElem_of_mem hx
      have := hz k (by simpa using hk)
      unfold fitE at this
      rw [getS_at hk] at this
      obtain ⟨⟨a, b⟩, -⟩ := nameB_iff.1 (named_of this)
      unfold ordAt
      obtain ⟨m, hm⟩ : ∃ m : Nat, l[k].job = m := ⟨l[k].job.toNat, by omega⟩
      rw [hm, jobAt_at (by omega)]
      exact hord _ (List.getElem_mem _)
    have e2 : firstBad (openRE s L l) (List.range l.length) = firstBad (openE s L l) (List.range l.length) := by
      refine firstBad_congr fun k hk => ?_
      unfold openRE openE
      rw [openR_eq hg]
    simp only
    rw [e2]
    rfl
theorem any_orders {s : ShopR} {L : List JobR} (h : checkS s L = true) : ∀ j ∈ L, 0 ≤ j.ord ∧ j.ord ≤ 1000 := fun j hj => (job_parts (check_job h hj)).2.2.2.2.2.2
theorem validRT_eq (s : ShopR) (L : List JobR) (l : List SlotR) : (if refCheckB s L = true then validR s L l else (0, 1)) = validT s L l := by
  unfold validT
  rw [refCheck_eq]
  by_cases h : checkS s L = true
  · rw [if_pos h, if_pos h, validR_eq (any_orders h)]
  · rw [if_neg h, if_neg h]
end Go.Proofs.YtpaojgfmffkodaaGreat
