/- Layer 52: which schedules are valid (plain): every slot by itself, each two of them, and the open orders; prices do not depend on the order. -/
import Derived.Test.YtpaojgfmffkodaaGreatVSch26
import Derived.Test.YtpaojgfmffkodaaGreatVSch28
import Derived.Test.YtpaojgfmffkodaaGreatVSch32
namespace Go.Proofs.YtpaojgfmffkodaaGreat
set_option linter.unusedVariables false
set_option linter.unusedSimpArgs false
open Go.RowKit

theorem firstBad_iff {f : Nat → Int} : ∀ l, firstBad f l = none ↔ ∀ k ∈ l, f k = 0
  | [] => by simp [firstBad]
  | k :: l => by
    unfold firstBad
    by_cases h : f k = 0
    · rw [if_pos h, firstBad_iff l]; simp [h]
    · rw [if_neg h]; simp [h]
theorem firstBad_ne {f : Nat → Int} {i : Nat} {e : Int} : ∀ {l}, firstBad f l = some (i, e) → e ≠ 0
  | [], h => by cases h
  | k :: l, h => by
    unfold firstBad at h
    by_cases hk : f k = 0
    · rw [if_pos hk] at h; exact firstBad_ne h
    · rw [if_neg hk] at h
      injection h with h
      injection h with h1 h2
      rw [← h2]; exact hk
theorem validV_iff {s : ShopR} {L : List JobR} {l : List SlotR} : (validV s L l).2 = 0 ↔ (∀ k, k < l.length → fitE s L l k = 0) ∧ ∀ k, k < l.length → openE s L l k = 0 := by
  unfold validV
  cases h1 : firstBad (fitE s L l) (List.range l.length) with
  | some x =>
    obtain ⟨i, e⟩ := x
    refine ⟨fun h => absurd h (firstBad_ne h1), fun ⟨h, _⟩ => ?_⟩
    have := (firstBad_iff (f := fitE s L l) (List.range l.length)).2 (fun k hk => h k (by simpa using hk))
    rw [this] at h1; cases h1
  | none =>
    have g1 := (firstBad_iff _).1 h1
    cases h2 : firstBad (openE s L l) (List.range l.length) with
    | some x =>
      obtain ⟨i, e⟩ := x
      refine ⟨fun h => absurd h (firstBad_ne h2), fun ⟨_, h⟩ => ?_⟩
      have := (firstBad_iff (f := openE s L l) (List.range l.length)).2 (fun k hk => h k (by simpa using hk))
      rw [this] at h2; cases h2
    | none =>
      have g2 := (firstBad_iff _).1 h2
      exact ⟨fun _ => ⟨fun k hk => g1 k (by simpa using hk), fun k hk => g2 k (by simpa using hk)⟩, fun _ => rfl⟩
def sepB (s : ShopR) (L : List JobR) (x y : SlotR) : Bool := !(y.job == x.job) && !clashB s L x y
theorem sepB_symm {s : ShopR} {L : List JobR} {x y : SlotR} (h : sepB s L x y = true) : sepB s L y x = true := by
  unfold sepB clashB at *
  rw [show (x.job == y.job) = (y.job == x.job) from Bool.beq_comm, show (x.mach == y.mach) = (y.mach == x.mach) from Bool.beq_comm, Bool.and_comm (!followsB s L x y)]
  exact h
theorem slotE_iff {s : ShopR} {L : List JobR} {ahead : List SlotR} {x : SlotR} : slotE s L ahead x = 0 ↔ slotE s L [] x = 0 ∧ ∀ y ∈ ahead, sepB s L x y = true := by
  have h1 : (∀ y ∈ ahead, sepB s L x y = true) ↔ ahead.any (fun y => y.job == x.job) = false ∧ ahead.any (clashB s L x) = false := by
    simp only [List.any_eq_false, sepB, Bool.and_eq_true, Bool.not_eq_true']
    constructor
    · intro h; exact ⟨fun y hy => by rw [(h y hy).1]; simp, fun y hy => by rw [(h y hy).2]; simp⟩
    · intro h y hy
      have a := h.1 y hy
      have b := h.2 y hy
      exact ⟨by cases e : (y.job == x.job) <;> simp_all, by cases e : clashB s L x y <;> simp_all⟩
  rw [h1]
  unfold slotE
  simp only [List.any_nil]
  cases nameB s L x <;> cases (jobAt L x.job).ms.any (fun m => x.mach == m) <;> cases shiftB s L x <;> by_cases hr : x.start < (jobAt L x.job).rel <;> cases ahead.any (fun y => y.job == x.job) <;> cases ahead.any (clashB s L x) <;> simp [hr]
theorem getD_idx {l : List SlotR} {k : Nat} (h : k < l.length) : l.getD k noSlot = l[k] := getS_at h
/-- What a valid schedule is: the order of its slots does not matter. -/
def GoodS (s : ShopR) (L : List JobR) (l : List SlotR) : Prop := (∀ x ∈ l, slotE s L [] x = 0) ∧ l.Pairwise (fun a b => sepB s L b a = true) ∧ ∀ x ∈ l, openN L x.start l ≤ s.most
theorem fits_iff {s : ShopR} {L : List JobR} {l : List SlotR} : (∀ k, k < l.length → fitE s L l k = 0) ↔ (∀ x ∈ l, slotE s L [] x = 0) ∧ l.Pairwise (fun a b => sepB s L b a = true) := by
  rw [List.pairwise_iff_getElem]
  constructor
  · intro h
    refine ⟨fun x hx => ?_, fun i j hi hj hij => ?_⟩
    · obtain ⟨k, hk, rfl⟩ := List.getElem_of_mem hx
      have := h k hk
      unfold fitE at this
      rw [getD_idx hk] at this
      exact (slotE_iff.1 this).1
    · have := h j hj
      unfold fitE at this
      rw [getD_idx hj] at this
      refine (slotE_iff.1 this).2 _ ?_
      rw [List.mem_take_iff_getElem]
      exact ⟨i, by omega, rfl⟩
  · intro ⟨h1, h2⟩ k hk
    unfold fitE
    rw [getD_idx hk]
    refine slotE_iff.2 ⟨h1 _ (List.getElem_mem hk), fun y hy => ?_⟩
    rw [List.mem_take_iff_getElem] at hy
    obtain ⟨i, hi, rfl⟩ := hy
    exact h2 i k (by omega) hk (by omega)
theorem validV_good {s : ShopR} {L : List JobR} {l : List SlotR} : (validV s L l).2 = 0 ↔ GoodS s L l := by
  rw [validV_iff, fits_iff, and_assoc]
  unfold GoodS
  have : (∀ k, k < l.length → openE s L l k = 0) ↔ ∀ x ∈ l, openN L x.start l ≤ s.most := by
    constructor
    · intro h x hx
      obtain ⟨k, hk, rfl⟩ := List.getElem_of_mem hx
      have := h k hk
      unfold openE at this
      rw [getD_idx hk] at this
      split at this
      · cases this
      · omega
    · intro h k hk
      unfold openE
      rw [getD_idx hk]
      rw [if_neg (by have := h _ (List.getElem_mem hk); omega)]
  rw [this]
def withMost (s : ShopR) (m : Int) : ShopR := ⟨s.A, s.c, s.cals, s.B, s.d, s.rows, m⟩
theorem GoodS.most {s : ShopR} {L : List JobR} {l : List SlotR} (h : GoodS s L l) {m : Int} (hm : s.most ≤ m) : GoodS (withMost s m) L l :=
  ⟨h.1, h.2.1, fun x hx => Int.le_trans (h.2.2 x hx) hm⟩
theorem validT_zero {s : ShopR} {L : List JobR} {l : List SlotR} : (validT s L l).2 = 0 ↔ checkS s L = true ∧ GoodS s L l := by
  unfold validT
  by_cases h : checkS s L = true
  · rw [if_pos h, validV_good]; simp [h]
  · rw [if_neg h]; simp [h]
theorem good_named {s : ShopR} {L : List JobR} {l : List SlotR} (h : GoodS s L l) : NamedS s L l := fun x hx => named_of (h.1 x hx)
theorem found_le {a : Int} {p : Nat → Bool} {n : Nat} (h : (foundV a p n).2 = 0) : a ≤ (foundV a p n).1 ∧ (foundV a p n).1 < a + n := by
  unfold foundV at *
  by_cases hl : least p n < n
  · rw [if_pos hl]; simp only; omega
  · rw [if_neg hl] at h; cases h
theorem finish_le {P : Int} {S D : List (Int × Int)} {t k : Int} (h : (finishV P S D t k).2 = 0) : 0 ≤ t ∧ t ≤ (finishV P S D t k).1 ∧ (finishV P S D t k).1 ≤ 1000000 := by
  unfold finishV at *
  by_cases hc : (validB P S D && (timeB t && timeB k)) = true
  · rw [if_pos hc] at h ⊢
    simp only [Bool.and_eq_true] at hc
    have ht := hc.2.1
    unfold timeB at ht
    simp only [Bool.and_eq_true, decide_eq_true_eq] at ht
    have := found_le h
    omega
  · rw [if_neg hc] at h
    unfold errI at h
    exfalso
    revert h hc
    cases validB P S D <;> cases (timeB t && timeB k) <;> simp
theorem good_stop {s : ShopR} {L : List JobR} {l : List SlotR} (h : GoodS s L l) : ∀ x ∈ l, (0 ≤ x.job ∧ x.job < L.length) ∧ 0 ≤ x.stop ∧ x.stop ≤ 1000000 := by
  intro x hx
  have hn := nameB_iff.1 (good_named h x hx)
  refine ⟨hn.1, ?_⟩
  have := h.1 x hx
  have hs : shiftB s L x = true := by
    unfold slotE at this
    split at this
    · cases this
    · split at this
      · cases this
      · split at this
        · cases this
        · split at this
          · cases this
          · split at this
            · cases this
            · rename_i h; simpa using h
  unfold shiftB at hs
  simp only [Bool.and_eq_true, beq_iff_eq] at hs
  have := finish_le hs.2.1
  unfold finishAt at *
  rw [hs.2.2] at this
  omega
/-! Prices. -/
end Go.Proofs.YtpaojgfmffkodaaGreat
/- Layer 52 (plain): a problem whose calendars are always open, moved by d. -/
namespace Go.Proofs.YtpaojgfmffkodaaGreat
set_option linter.unusedVariables false
set_option linter.unusedSimpArgs false
open Go.RowKit

/-- Machines that are always open, and modest numbers. -/
structure Alw (s : ShopR) (L : List JobR) : Prop where
  cals : ∀ x ∈ s.cals, x.P = 1 ∧ x.S = [(0, 1)] ∧ x.D = []
  dur : ∀ j ∈ L, 0 ≤ j.dur ∧ j.dur ≤ 10000
  rel : ∀ j ∈ L, 0 ≤ j.rel ∧ j.rel ≤ 20000
  mach : ∀ j ∈ L, ∀ m ∈ j.ms, 0 ≤ m ∧ m < s.cals.length
  setup : ∀ a b : Int, 0 ≤ a → a < L.length → 0 ≤ b → b < L.length → 0 ≤ setupAt s L a b ∧ setupAt s L a b ≤ 1000
theorem jobAt_mem {L : List JobR} {j : Int} (h0 : 0 ≤ j) (h1 : j < L.length) : jobAt L j ∈ L := by
  obtain ⟨i, rfl⟩ : ∃ i : Nat, j = i := ⟨j.toNat, by omega⟩
  rw [jobAt_at (show i < L.length by omega)]
  exact List.getElem_mem _
section
variable {s : ShopR} {L : List JobR} {d B : Int}
theorem Alw.cal (h : Alw s L) {m : Int} (h0 : 0 ≤ m) (h1 : m < s.cals.length) : (calAt s m).P = 1 ∧ (calAt s m).S = [(0, 1)] ∧ (calAt s m).D = [] := by
  obtain ⟨i, rfl⟩ : ∃ i : Nat, m = i := ⟨m.toNat, by omega⟩
  rw [calAt_at (show i < s.cals.length by omega)]
  exact h.cals _ (List.getElem_mem _)
theorem Alw.finish (h : Alw s L) {m t k : Int} (h0 : 0 ≤ m) (h1 : m < s.cals.length) (ht : 0 ≤ t) (hk : 0 ≤ k) (hs : t + k ≤ 1000000) : finishAt s m t k = (t + k, 0) := by
  obtain ⟨e1, e2, e3⟩ := h.cal h0 h1
  unfold finishAt; rw [e1, e2, e3]
  exact finish_always (by omega) (by omega) ht hk hs
theorem Alw.next (h : Alw s L) {m t : Int} (h0 : 0 ≤ m) (h1 : m < s.cals.length) (ht : 0 ≤ t) (hs : t ≤ 1000000) : nextAt s m t = (t, 0) := by
  obtain ⟨e1, e2, e3⟩ := h.cal h0 h1
  unfold nextAt; rw [e1, e2, e3]
  exact next_always (by omega) (by omega) ht hs
theorem Alw.work (h : Alw s L) {m a b : Int} (h0 : 0 ≤ m) (h1 : m < s.cals.length) (ha : 0 ≤ a) (hab : a ≤ b) (hb : b ≤ 1000000) : workAt s m a b = (b - a, 0) := by
  obtain ⟨e1, e2, e3⟩ := h.cal h0 h1
  unfold workAt; rw [e1, e2, e3]
  exact work_always (by omega) (by omega) ha hab hb
theorem Alw.opened (h : Alw s L) {m t : Int} (h0 : 0 ≤ m) (h1 : m < s.cals.length) (ht : 0 ≤ t) (hs : t ≤ 1000000) : openAt s m t = true := by
  obtain ⟨e1, e2, e3⟩ := h.cal h0 h1
  unfold openAt; rw [e1, e2, e3]
  exact open_always (by omega) (by omega) ht hs
end
end Go.Proofs.YtpaojgfmffkodaaGreat
/- Layer 52 (plain): the problem of ScheduleLater: what the reference's check says, and the schedules of both lists. -/
namespace Go.Proofs.YtpaojgfmffkodaaGreat
set_option linter.unusedVariables false
set_option linter.unusedSimpArgs false
open Go.RowKit

end Go.Proofs.YtpaojgfmffkodaaGreat
/- Layer 52 (the reference, plain): candidates and first fits, open orders, which schedules are valid. -/
namespace Go.Proofs.YtpaojgfmffkodaaGreat
set_option linter.unusedVariables false
set_option linter.unusedSimpArgs false
open Go.RowKit

theorem errI_zero {v c : Bool} (h : errI v c = 0) : (v && c) = true := by
  revert h
  unfold errI
  cases v <;> cases c <;> simp
theorem found_least {a : Int} {p : Nat → Bool} {n i : Nat} (hi : i < n) (hp : p i = true) : (foundV a p n).2 = 0 ∧ (foundV a p n).1 ≤ a + i := by
  obtain ⟨k1, k2, k3⟩ := least_spec p n
  have hl : least p n ≤ i := by
    rcases Nat.lt_or_ge i (least p n) with h | h
    · rw [k2 i h] at hp; cases hp
    · exact h
  unfold foundV
  rw [if_pos (by omega)]
  exact ⟨rfl, by simp only; omega⟩
theorem found_some {a : Int} {p : Nat → Bool} {n : Nat} (h : (foundV a p n).2 = 0) : ∃ i, i < n ∧ p i = true ∧ (foundV a p n).1 = a + i := by
  obtain ⟨k1, k2, k3⟩ := least_spec p n
  unfold foundV at *
  by_cases hl : least p n < n
  · rw [if_pos hl]
    exact ⟨_, hl, k3 hl, rfl⟩
  · rw [if_neg hl] at h; cases h
theorem next_ok {P : Int} {S D : List (Int × Int)} {t : Int} (h : (nextV P S D t).2 = 0) : (validB P S D && timeB t) = true ∧ nextV P S D t = foundV t (fun i => openI P S D (t + i)) (1000001 - t).toNat := by
  unfold nextV at *
  by_cases hc : (validB P S D && timeB t) = true
  · rw [if_pos hc]; exact ⟨hc, rfl⟩
  · rw [if_neg hc] at h
    exact absurd (errI_zero h) hc
theorem finish_ok {P : Int} {S D : List (Int × Int)} {t k : Int} (h : (finishV P S D t k).2 = 0) : (validB P S D && (timeB t && timeB k)) = true ∧ finishV P S D t k = foundV t (fun i => decide (k ≤ cnt (openI P S D) t i)) (1000001 - t).toNat := by
  unfold finishV at *
  by_cases hc : (validB P S D && (timeB t && timeB k)) = true
  · rw [if_pos hc]; exact ⟨hc, rfl⟩
  · rw [if_neg hc] at h
    exact absurd (errI_zero h) hc
theorem next_mono {P : Int} {S D : List (Int × Int)} {t u : Int} (h : (nextV P S D u).2 = 0) (h0 : 0 ≤ t) (htu : t ≤ u) : (nextV P S D t).2 = 0 ∧ t ≤ (nextV P S D t).1 ∧ (nextV P S D t).1 ≤ (nextV P S D u).1 := by
  obtain ⟨hc, e⟩ := next_ok h
  rw [e] at h
  obtain ⟨i, hi, hp, hv⟩ := found_some h
  rw [Bool.and_eq_true, timeB_iff] at hc
  have ht : (validB P S D && timeB t) = true := by rw [Bool.and_eq_true, timeB_iff]; exact ⟨hc.1, by omega, by omega⟩
  have e2 : nextV P S D t = foundV t (fun i => openI P S D (t + i)) (1000001 - t).toNat := by unfold nextV; rw [if_pos ht]
  have hpt : openI P S D (t + (((u - t).toNat + i : Nat) : Int)) = true := by
    rw [show t + (((u - t).toNat + i : Nat) : Int) = u + i by omega]
    exact hp
  have hfl := found_least (a := t) (p := fun i => openI P S D (t + i)) (n := (1000001 - t).toNat) (i := (u - t).toNat + i) (by omega) hpt
  rw [e2, e, hv]
  have := (found_le hfl.1).1
  exact ⟨hfl.1, this, by omega⟩
theorem finish_mono {P : Int} {S D : List (Int × Int)} {t u k : Int} (h : (finishV P S D u k).2 = 0) (h0 : 0 ≤ t) (htu : t ≤ u) : (finishV P S D t k).2 = 0 ∧ (finishV P S D t k).1 ≤ (finishV P S D u k).1 := by
  obtain ⟨hc, e⟩ := finish_ok h
  rw [e] at h
  obtain ⟨i, hi, hp, hv⟩ := found_some h
  rw [Bool.and_eq_true, Bool.and_eq_true, timeB_iff] at hc
  have ht : (validB P S D && (timeB t && timeB k)) = true := by rw [Bool.and_eq_true, Bool.and_eq_true, timeB_iff]; exact ⟨hc.1, ⟨by omega, by omega⟩, hc.2.2⟩
  have e2 : finishV P S D t k = foundV t (fun i => decide (k ≤ cnt (openI P S D) t i)) (1000001 - t).toNat := by unfold finishV; rw [if_pos ht]
  have hpt : decide (k ≤ cnt (openI P S D) t ((u - t).toNat + i)) = true := by
    rw [decide_eq_true_eq] at hp ⊢
    rw [cnt_add, show t + ((u - t).toNat : Int) = u by omega]
    have := (cnt_bounds (openI P S D) t (u - t).toNat).1
    omega
  have hfl := found_least (a := t) (p := fun i => decide (k ≤ cnt (openI P S D) t i)) (n := (1000001 - t).toNat) (i := (u - t).toNat + i) (by omega) hpt
  rw [e2, e, hv]
  exact ⟨hfl.1, by omega⟩

/-- The slot of a job on a machine that begins at u. -/
def slotAt (s : ShopR) (L : List JobR) (jb m u : Int) : SlotR := ⟨jb, m, u, (finishAt s m u (jobAt L jb).dur).1⟩
def fitsB (s : ShopR) (L : List JobR) (l : List SlotR) (jb m u : Int) : Bool := (finishAt s m u (jobAt L jb).dur).2 == 0 && (validV s L (l ++ [slotAt s L jb m u])).2 == 0
def startsL (s : ShopR) (m : Int) : List Int → List Int
  | [] => []
  | t :: r => if (nextAt s m t).2 = 0 then (nextAt s m t).1 :: startsL s m r else startsL s m r
theorem mem_startsL {s : ShopR} {m u : Int} : ∀ {ts : List Int}, u ∈ startsL s m ts ↔ ∃ t ∈ ts, (nextAt s m t).2 = 0 ∧ u = (nextAt s m t).1
  | [] => by simp [startsL]
  | t :: r => by
    unfold startsL
    by_cases h : (nextAt s m t).2 = 0
    · rw [if_pos h, List.mem_cons, mem_startsL (ts := r)]
      constructor
      · rintro (rfl | ⟨t', h1, h2⟩)
        · exact ⟨t, by simp, h, rfl⟩
        · exact ⟨t', by simp [h1], h2⟩
      · rintro ⟨t', h1, h2, h3⟩
        rcases List.mem_cons.1 h1 with rfl | h1
        · exact .inl h3
        · exact .inr ⟨t', h1, h2, h3⟩
    · rw [if_neg h, mem_startsL (ts := r)]
      constructor
      · rintro ⟨t', h1, h2⟩; exact ⟨t', by simp [h1], h2⟩
      · rintro ⟨t', h1, h2, h3⟩
        rcases List.mem_cons.1 h1 with rfl | h1
        · exact absurd h2 h
        · exact ⟨t', h1, h2, h3⟩
theorem startsL_sorted {s : ShopR} {m : Int} : ∀ {ts : List Int}, ts.Pairwise (· ≤ ·) → (∀ t ∈ ts, 0 ≤ t) → (startsL s m ts).Pairwise (· ≤ ·)
  | [], _, _ => by simp [startsL]
  | t :: r, h, h0 => by
    obtain ⟨h1, h2⟩ := List.pairwise_cons.1 h
    have ih := startsL_sorted (s := s) (m := m) h2 fun t ht => h0 t (by simp [ht])
    unfold startsL
    by_cases hn : (nextAt s m t).2 = 0
    · rw [if_pos hn]
      refine List.pairwise_cons.2 ⟨fun u hu => ?_, ih⟩
      obtain ⟨t', ht', e1, rfl⟩ := mem_startsL.1 hu
      exact (next_mono e1 (h0 t (by simp)) (h1 t' ht')).2.2
    · rw [if_neg hn]; exact ih
theorem find_none {α : Type} {p : α → Bool} : ∀ {l : List α}, (∀ x ∈ l, p x = false) → l.find? p = none
  | [], _ => rfl
  | a :: r, h => by rw [List.find?_cons, h a (by simp)]; exact find_none fun x hx => h x (by simp [hx])
theorem firstFit_find {s : ShopR} {L : List JobR} {l : List SlotR} {jb m : Int} : ∀ {ts : List Int}, ts.Pairwise (· ≤ ·) → (∀ t ∈ ts, 0 ≤ t) → firstFit s L l jb m ts = ((startsL s m ts).find? (fitsB s L l jb m)).map (slotAt s L jb m)
  | [], _, _ => rfl
  | t :: r, h, h0 => by
    obtain ⟨h1, h2⟩ := List.pairwise_cons.1 h
    have ih := firstFit_find (s := s) (L := L) (l := l) (jb := jb) (m := m) h2 fun t ht => h0 t (by simp [ht])
    have ht0 := h0 t (by simp)
    unfold firstFit startsL
    by_cases hn : (nextAt s m t).2 = 0
    · rw [if_pos hn, if_pos hn, List.find?_cons]
      have hn0 : 0 ≤ (nextAt s m t).1 := by have h9 : t ≤ (nextAt s m t).1 := (next_mono hn ht0 (Int.le_refl t)).2.1; omega
      by_cases hf : (finishAt s m (nextAt s m t).1 (jobAt L jb).dur).2 = 0
      · rw [if_pos hf]
        by_cases hv : (validV s L (l ++ [⟨jb, m, (nextAt s m t).1, (finishAt s m (nextAt s m t).1 (jobAt L jb).dur).1⟩])).2 = 0
        · rw [if_pos hv, show fitsB s L l jb m (nextAt s m t).1 = true by unfold fitsB slotAt; rw [hf, hv]; rfl]
          rfl
        · rw [if_neg hv, show fitsB s L l jb m (nextAt s m t).1 = false by unfold fitsB slotAt; rw [hf]; simpa using hv]
          exact ih
      · rw [if_neg hf, show fitsB s L l jb m (nextAt s m t).1 = false by unfold fitsB; rw [show ((finishAt s m (nextAt s m t).1 (jobAt L jb).dur).2 == 0) = false by simpa using hf]; rfl]
        simp only
        rw [find_none]
        · rfl
        · intro u hu
          obtain ⟨t', ht', e1, rfl⟩ := mem_startsL.1 hu
          have hle := (next_mono e1 ht0 (h1 t' ht')).2.2
          unfold fitsB
          by_cases q : (finishAt s m (nextAt s m t').1 (jobAt L jb).dur).2 = 0
          · exact absurd (finish_mono q hn0 hle).1 hf
          · rw [show ((finishAt s m (nextAt s m t').1 (jobAt L jb).dur).2 == 0) = false by simpa using q]; rfl
    · rw [if_neg hn, if_neg hn]
      have : startsL s m r = [] := by
        cases q : startsL s m r with
        | nil => rfl
        | cons u r' =>
          obtain ⟨t', ht', e1, -⟩ := mem_startsL.1 (show u ∈ startsL s m r by rw [q]; simp)
          exact absurd (next_mono e1 ht0 (h1 t' ht')).1 hn
      rw [this]
      rfl
/-- A number that is added to an ascending list, once. -/
def insU (t : Int) : List Int → List Int
  | [] => [t]
  | y :: r => if y < t then y :: insU t r else if y = t then y :: r else t :: y :: r
theorem mem_insU {t u : Int} : ∀ {l : List Int}, u ∈ insU t l ↔ u = t ∨ u ∈ l
  | [] => by simp [insU]
  | y :: r => by
    unfold insU
    split
    · rw [List.mem_cons, mem_insU (l := r), List.mem_cons]
      constructor
      · rintro (h | h | h)
        · exact .inr (.inl h)
        · exact .inl h
        · exact .inr (.inr h)
      · rintro (h | h | h)
        · exact .inr (.inl h)
        · exact .inl h
        · exact .inr (.inr h)
    · split
      · rename_i h
        constructor
        · exact .inr
        · rintro (rfl | q)
          · rw [← h]; simp
          · exact q
      · simp
theorem insU_sorted {t : Int} : ∀ {l : List Int}, l.Pairwise (· < ·) → (insU t l).Pairwise (· < ·)
  | [], _ => by simp [insU]
  | y :: r, h => by
    obtain ⟨h1, h2⟩ := List.pairwise_cons.1 h
    unfold insU
    split
    · refine List.pairwise_cons.2 ⟨fun u hu => ?_, insU_sorted h2⟩
      rcases mem_insU.1 hu with rfl | hu
      · assumption
      · exact h1 u hu
    · split
      · exact h
      · refine List.pairwise_cons.2 ⟨fun u hu => ?_, h⟩
        rcases List.mem_cons.1 hu with rfl | hu
        · omega
        · have := h1 u hu; omega
def candStep (s : ShopR) (m : Int) (out : List Int) (t : Int) : List Int := if (nextAt s m t).2 = 0 then insU (nextAt s m t).1 out else out
def candL (s : ShopR) (m : Int) (ts : List Int) : List Int := ts.foldl (candStep s m) []
theorem candF_spec {s : ShopR} {m : Int} : ∀ {ts out : List Int}, out.Pairwise (· < ·) → (ts.foldl (candStep s m) out).Pairwise (· < ·) ∧ ∀ u, u ∈ ts.foldl (candStep s m) out ↔ u ∈ out ∨ u ∈ startsL s m ts
  | [], out, h => ⟨h, fun u => by simp [startsL]⟩
  | t :: r, out, h => by
    rw [List.foldl_cons]
    unfold startsL
    by_cases hn : (nextAt s m t).2 = 0
    · have hs : candStep s m out t = insU (nextAt s m t).1 out := by unfold candStep; rw [if_pos hn]
      obtain ⟨a, b⟩ := candF_spec (s := s) (m := m) (ts := r) (out := candStep s m out t) (by rw [hs]; exact insU_sorted h)
      refine ⟨a, fun u => ?_⟩
      rw [b u, hs, mem_insU, if_pos hn, List.mem_cons]
      constructor
      · rintro ((h | h) | h)
        · exact .inr (.inl h)
        · exact .inl h
        · exact .inr (.inr h)
      · rintro (h | h | h)
        · exact .inl (.inr h)
        · exact .inl (.inl h)
        · exact .inr h
    · have hs : candStep s m out t = out := by unfold candStep; rw [if_neg hn]
      rw [hs, if_neg hn]
      exact candF_spec h
theorem candL_sorted (s : ShopR) (m : Int) (ts : List Int) : (candL s m ts).Pairwise (· < ·) := (candF_spec (by simp)).1
theorem mem_candL {s : ShopR} {m u : Int} {ts : List Int} : u ∈ candL s m ts ↔ u ∈ startsL s m ts := by
  have := (candF_spec (s := s) (m := m) (ts := ts) (out := []) (by simp)).2 u
  unfold candL
  rw [this]
  simp
theorem find_least {p : Int → Bool} : ∀ {l : List Int}, l.Pairwise (· ≤ ·) → ∀ {u}, l.find? p = some u ↔ (u ∈ l ∧ p u = true ∧ ∀ v ∈ l, p v = true → u ≤ v)
  | [], _, u => by simp
  | a :: r, h, u => by
    obtain ⟨h1, h2⟩ := List.pairwise_cons.1 h
    rw [List.find?_cons]
    cases hp : p a
    · simp only
      rw [find_least h2]
      constructor
      · rintro ⟨q1, q2, q3⟩
        exact ⟨by simp [q1], q2, fun v hv hpv => by
          rcases List.mem_cons.1 hv with rfl | hv
          · rw [hp] at hpv; cases hpv
          · exact q3 v hv hpv⟩
      · rintro ⟨q1, q2, q3⟩
        rcases List.mem_cons.1 q1 with rfl | q1
        · rw [hp] at q2; cases q2
        · exact ⟨q1, q2, fun v hv hpv => q3 v (by simp [hv]) hpv⟩
    · simp only [Option.some.injEq]
      constructor
      · rintro rfl
        exact ⟨by simp, hp, fun v hv hpv => by
          rcases List.mem_cons.1 hv with rfl | hv
          · exact Int.le_refl _
          · exact h1 v hv⟩
      · rintro ⟨q1, q2, q3⟩
        rcases List.mem_cons.1 q1 with rfl | q1
        · rfl
        · have := h1 u q1
          have := q3 a (by simp) hp
          omega
theorem find_same {p : Int → Bool} {l m : List Int} (hl : l.Pairwise (· ≤ ·)) (hm : m.Pairwise (· ≤ ·)) (h : ∀ u, u ∈ l ↔ u ∈ m) : l.find? p = m.find? p := by
  cases q : m.find? p with
  | none =>
    refine find_none fun x hx => ?_
    have := List.find?_eq_none.1 q x ((h x).1 hx)
    simpa using this
  | some u =>
    obtain ⟨a, b, c⟩ := (find_least hm).1 q
    exact (find_least hl).2 ⟨(h u).2 a, b, fun v hv hp => c v ((h v).1 hv) hp⟩
theorem firstFit_cand {s : ShopR} {L : List JobR} {l : List SlotR} {jb m : Int} {ts : List Int} (h0 : ∀ t ∈ ts, 0 ≤ t) : firstFit s L l jb m (sortI ts) = ((candL s m ts).find? (fitsB s L l jb m)).map (slotAt s L jb m) := by
  have hm : ∀ t, t ∈ sortI ts ↔ t ∈ ts := fun t => (sortI_perm ts).mem_iff
  have h1 : ∀ t ∈ sortI ts, 0 ≤ t := fun t ht => h0 t ((hm t).1 ht)
  rw [firstFit_find (sortI_sorted ts) h1]
  congr 1
  refine find_same (startsL_sorted (sortI_sorted ts) h1) ((candL_sorted s m ts).imp (fun h => Int.le_of_lt h)) fun u => ?_
  rw [mem_candL, mem_startsL, mem_startsL]
  constructor
  · rintro ⟨t, ht, q⟩; exact ⟨t, (hm t).1 ht, q⟩
  · rintro ⟨t, ht, q⟩; exact ⟨t, (hm t).2 ht, q⟩
def candV (s : ShopR) (L : List JobR) (l : List SlotR) (jb m : Int) : List Int := match beginV s L jb m (jobAt L jb).rel l with
  | none => []
  | some b => candL s m (b :: endsOf b l)
theorem begin_ge {s : ShopR} {L : List JobR} {jb m : Int} : ∀ {l : List SlotR} {b0 b : Int}, beginV s L jb m b0 l = some b → b0 ≤ b
  | [], b0, b, h => by unfold beginV at h; injection h with h; omega
  | x :: r, b0, b, h => by
    unfold beginV at h
    split at h
    · split at h
      · have := begin_ge h
        rw [imax_eq] at this
        omega
      · cases h
    · exact begin_ge h
theorem onV_cand {s : ShopR} {L : List JobR} {l : List SlotR} {jb m : Int} (hr : 0 ≤ (jobAt L jb).rel) : onV s L l jb m = ((candV s L l jb m).find? (fitsB s L l jb m)).map (slotAt s L jb m) := by
  unfold onV candV
  cases hb : beginV s L jb m (jobAt L jb).rel l with
  | none => rfl
  | some b =>
    simp only
    have h1 := begin_ge hb
    refine firstFit_cand fun t ht => ?_
    rcases List.mem_cons.1 ht with rfl | ht
    · omega
    · unfold endsOf at ht
      obtain ⟨y, hy, rfl⟩ := List.mem_map.1 ht
      have := (List.mem_filter.1 hy).2
      simp at this
      omega
theorem fold_from {s : ShopR} {L : List JobR} {l : List SlotR} {jb : Int} (Q : SlotR → Prop) (hq : ∀ m x, onV s L l jb m = some x → Q x) : ∀ (ms : List Int) (b : Option SlotR), (∀ x, b = some x → Q x) → ∀ x, ms.foldl (fun best m => betterS best (onV s L l jb m)) b = some x → Q x
  | [], b, hb, x, hx => hb x hx
  | m :: ms, b, hb, x, hx => by
    rw [List.foldl_cons] at hx
    refine fold_from Q hq ms _ (fun y hy => ?_) x hx
    unfold betterS at hy
    cases ho : onV s L l jb m with
    | none => rw [ho] at hy; exact hb y hy
    | some z =>
      rw [ho] at hy
      cases b with
      | none => simp at hy; rw [← hy]; exact hq m z ho
      | some c =>
        simp only at hy
        split at hy
        · injection hy with hy; rw [← hy]; exact hq m z ho
        · exact hb y hy
theorem dispatch_valid {s : ShopR} {L : List JobR} {l : List SlotR} {jb : Int} (hr : 0 ≤ (jobAt L jb).rel) {x : SlotR} (h : dispatchV s L l jb = some x) : (validV s L (l ++ [x])).2 = 0 := by
  refine fold_from (fun x => (validV s L (l ++ [x])).2 = 0) (fun m x hx => ?_) _ none (fun x hx => by cases hx) x h
  rw [onV_cand hr] at hx
  cases q : (candV s L l jb m).find? (fitsB s L l jb m) with
  | none => rw [q] at hx; cases hx
  | some u =>
    rw [q] at hx
    simp only [Option.map_some, Option.some.injEq] at hx
    have := List.find?_some q
    unfold fitsB at this
    rw [Bool.and_eq_true, beq_iff_eq, beq_iff_eq] at this
    rw [← hx]
    exact this.2
end Go.Proofs.YtpaojgfmffkodaaGreat
/- Layer 52 (the reference, plain): its slots, open orders and valid schedules are the program's. -/
namespace Go.Proofs.YtpaojgfmffkodaaGreat
set_option linter.unusedVariables false
set_option linter.unusedSimpArgs false
open Go.RowKit

theorem any_orders {s : ShopR} {L : List JobR} (h : checkS s L = true) : ∀ j ∈ L, 0 ≤ j.ord ∧ j.ord ≤ 1000 := fun j hj => (job_parts (check_job h hj)).2.2.2.2.2.2
end Go.Proofs.YtpaojgfmffkodaaGreat
