/- Layer 52: which schedules are valid (plain): every slot by itself, each two of them, and the open orders; prices do not depend on the order. -/
import Derived.Test.YtdcncalcncomoaaSch26
namespace Go.Proofs.Ytdcncalcncomoaa
open Go.RowKit
set_option linter.unusedVariables false

theorem firstBad_iff {f : Nat → Int} : ∀ l, firstBad f l = none ↔ ∀ k ∈ l, f k = 0
  | [] => by simp [firstBad]
  | k :: l => by
    unfold firstBad
    by_cases h : f k = 0
    · rw [if_pos h, firstBad_iff l]; simp [h]
    · rw [if_neg h]; simp [h]
theorem firstBad_ne {f : Nat → Int} {i : Nat} {e : Int} : ∀ {l}, firstBad f l = some (i, e) → e ≠ 0
  | [], h => by cases h
  | k :: l, h => by
    unfold firstBad at h
    by_cases hk : f k = 0
    · rw [if_pos hk] at h; exact firstBad_ne h
    · rw [if_neg hk] at h
      injection h with h
      injection h with h1 h2
      rw [← h2]; exact hk
theorem validV_iff {s : ShopR} {L : List JobR} {l : List SlotR} : (validV s L l).2 = 0 ↔ (∀ k, k < l.length → fitE s L l k = 0) ∧ ∀ k, k < l.length → openE s L l k = 0 := by
  unfold validV
  cases h1 : firstBad (fitE s L l) (List.range l.length) with
  | some x =>
    obtain ⟨i, e⟩ := x
    refine ⟨fun h => absurd h (firstBad_ne h1), fun ⟨h, _⟩ => ?_⟩
    have := (firstBad_iff (f := fitE s L l) (List.range l.length)).2 (fun k hk => h k (by simpa using hk))
    rw [this] at h1; cases h1
  | none =>
    have g1 := (firstBad_iff _).1 h1
    cases h2 : firstBad (openE s L l) (List.range l.length) with
    | some x =>
      obtain ⟨i, e⟩ := x
      refine ⟨fun h => absurd h (firstBad_ne h2), fun ⟨_, h⟩ => ?_⟩
      have := (firstBad_iff (f := openE s L l) (List.range l.length)).2 (fun k hk => h k (by simpa using hk))
      rw [this] at h2; cases h2
    | none =>
      have g2 := (firstBad_iff _).1 h2
      exact ⟨fun _ => ⟨fun k hk => g1 k (by simpa using hk), fun k hk => g2 k (by simpa using hk)⟩, fun _ => rfl⟩
def sepB (s : ShopR) (L : List JobR) (x y : SlotR) : Bool := !(y.job == x.job) && !clashB s L x y
theorem sepB_symm {s : ShopR} {L : List JobR} {x y : SlotR} (h : sepB s L x y = true) : sepB s L y x = true := by
  unfold sepB clashB at *
  rw [show (x.job == y.job) = (y.job == x.job) from Bool.beq_comm, show (x.mach == y.mach) = (y.mach == x.mach) from Bool.beq_comm, Bool.and_comm (!followsB s L x y)]
  exact h
theorem slotE_iff {s : ShopR} {L : List JobR} {ahead : List SlotR} {x : SlotR} : slotE s L ahead x = 0 ↔ slotE s L [] x = 0 ∧ ∀ y ∈ ahead, sepB s L x y = true := by
  have h1 : (∀ y ∈ ahead, sepB s L x y = true) ↔ ahead.any (fun y => y.job == x.job) = false ∧ ahead.any (clashB s L x) = false := by
    simp only [List.any_eq_false, sepB, Bool.and_eq_true, Bool.not_eq_true']
    constructor
    · intro h; exact ⟨fun y hy => by rw [(h y hy).1]; simp, fun y hy => by rw [(h y hy).2]; simp⟩
    · intro h y hy
      have a := h.1 y hy
      have b := h.2 y hy
      exact ⟨by cases e : (y.job == x.job) <;> simp_all, by cases e : clashB s L x y <;> simp_all⟩
  rw [h1]
  unfold slotE
  simp only [List.any_nil]
  cases nameB s L x <;> cases (jobAt L x.job).ms.any (fun m => x.mach == m) <;> cases shiftB s L x <;> by_cases hr : x.start < (jobAt L x.job).rel <;> cases ahead.any (fun y => y.job == x.job) <;> cases ahead.any (clashB s L x) <;> simp [hr]
theorem getD_idx {l : List SlotR} {k : Nat} (h : k < l.length) : l.getD k noSlot = l[k] := getS_at h
/-- What a valid schedule is: the order of its slots does not matter. -/
def GoodS (s : ShopR) (L : List JobR) (l : List SlotR) : Prop := (∀ x ∈ l, slotE s L [] x = 0) ∧ l.Pairwise (fun a b => sepB s L b a = true) ∧ ∀ x ∈ l, openN L x.start l ≤ s.most
theorem fits_iff {s : ShopR} {L : List JobR} {l : List SlotR} : (∀ k, k < l.length → fitE s L l k = 0) ↔ (∀ x ∈ l, slotE s L [] x = 0) ∧ l.Pairwise (fun a b => sepB s L b a = true) := by
  rw [List.pairwise_iff_getElem]
  constructor
  · intro h
    refine ⟨fun x hx => ?_, fun i j hi hj hij => ?_⟩
    · obtain ⟨k, hk, rfl⟩ := List.getElem_of_mem hx
      have := h k hk
      unfold fitE at this
      rw [getD_idx hk] at this
      exact (slotE_iff.1 this).1
    · have := h j hj
      unfold fitE at this
      rw [getD_idx hj] at this
      refine (slotE_iff.1 this).2 _ ?_
      rw [List.mem_take_iff_getElem]
      exact ⟨i, by omega, rfl⟩
  · intro ⟨h1, h2⟩ k hk
    unfold fitE
    rw [getD_idx hk]
    refine slotE_iff.2 ⟨h1 _ (List.getElem_mem hk), fun y hy => ?_⟩
    rw [List.mem_take_iff_getElem] at hy
    obtain ⟨i, hi, rfl⟩ := hy
    exact h2 i k (by omega) hk (by omega)
theorem validV_good {s : ShopR} {L : List JobR} {l : List SlotR} : (validV s L l).2 = 0 ↔ GoodS s L l := by
  rw [validV_iff, fits_iff, and_assoc]
  unfold GoodS
  have : (∀ k, k < l.length → openE s L l k = 0) ↔ ∀ x ∈ l, openN L x.start l ≤ s.most := by
    constructor
    · intro h x hx
      obtain ⟨k, hk, rfl⟩ := List.getElem_of_mem hx
      have := h k hk
      unfold openE at this
      rw [getD_idx hk] at this
      split at this
      · cases this
      · omega
    · intro h k hk
      unfold openE
      rw [getD_idx hk]
      rw [if_neg (by have := h _ (List.getElem_mem hk); omega)]
  rw [this]
theorem any_mono {α : Type} {p : α → Bool} {l m : List α} (h : ∀ x ∈ m, x ∈ l) (hm : m.any p = true) : l.any p = true := by
  rw [List.any_eq_true] at *
  obtain ⟨x, hx, hp⟩ := hm
  exact ⟨x, h x hx, hp⟩
theorem openN_mono {L : List JobR} {t : Int} {l m : List SlotR} (h : ∀ x ∈ m, x ∈ l) : openN L t m ≤ openN L t l := by
  unfold openN openTo
  have : (List.range 1001).countP (fun o => begunB L t m o && unfinB L t m o) ≤ (List.range 1001).countP (fun o => begunB L t l o && unfinB L t l o) := by
    refine List.countP_mono_left fun o _ ho => ?_
    rw [Bool.and_eq_true] at *
    exact ⟨any_mono h ho.1, any_mono h ho.2⟩
  omega
/-- A part of the slots, in whatever order. -/
theorem GoodS.part {s : ShopR} {L : List JobR} {l m : List SlotR} (h : GoodS s L l) (hm : m.Sublist l.reverse) : GoodS s L m := by
  obtain ⟨h1, h2, h3⟩ := h
  have hs : ∀ x ∈ m, x ∈ l := fun x hx => by simpa using hm.subset hx
  refine ⟨fun x hx => h1 x (hs x hx), ?_, fun x hx => Int.le_trans (openN_mono hs) (h3 x (hs x hx))⟩
  refine List.Pairwise.sublist hm ?_
  rw [List.pairwise_reverse]
  exact h2.imp fun h => sepB_symm h
def withMost (s : ShopR) (m : Int) : ShopR := ⟨s.A, s.c, s.cals, s.B, s.d, s.rows, m⟩
theorem GoodS.most {s : ShopR} {L : List JobR} {l : List SlotR} (h : GoodS s L l) {m : Int} (hm : s.most ≤ m) : GoodS (withMost s m) L l :=
  ⟨h.1, h.2.1, fun x hx => Int.le_trans (h.2.2 x hx) hm⟩
theorem checkS_most {s : ShopR} {L : List JobR} (h : checkS s L = true) {m : Int} (h1 : 1 ≤ m) (h2 : m ≤ 40) : checkS (withMost s m) L = true := by
  unfold checkS shopB headB at *
  simp only [Bool.and_eq_true, decide_eq_true_eq] at *
  obtain ⟨⟨⟨a, b, c, d⟩, e⟩, f⟩ := h
  exact ⟨⟨⟨a, b, c, h1, h2⟩, e⟩, f⟩
theorem checkS_bounds {s : ShopR} {L : List JobR} (h : checkS s L = true) : 1 ≤ s.most ∧ s.most ≤ 40 := by
  unfold checkS shopB headB at *
  simp only [Bool.and_eq_true, decide_eq_true_eq] at *
  exact h.1.1.2.2.2
theorem validT_zero {s : ShopR} {L : List JobR} {l : List SlotR} : (validT s L l).2 = 0 ↔ checkS s L = true ∧ GoodS s L l := by
  unfold validT
  by_cases h : checkS s L = true
  · rw [if_pos h, validV_good]; simp [h]
  · rw [if_neg h]; simp [h]
theorem good_named {s : ShopR} {L : List JobR} {l : List SlotR} (h : GoodS s L l) : NamedS s L l := fun x hx => named_of (h.1 x hx)
theorem found_le {a : Int} {p : Nat → Bool} {n : Nat} (h : (foundV a p n).2 = 0) : a ≤ (foundV a p n).1 ∧ (foundV a p n).1 < a + n := by
  unfold foundV at *
  by_cases hl : least p n < n
  · rw [if_pos hl]; simp only; omega
  · rw [if_neg hl] at h; cases h
theorem finish_le {P : Int} {S D : List (Int × Int)} {t k : Int} (h : (finishV P S D t k).2 = 0) : 0 ≤ t ∧ t ≤ (finishV P S D t k).1 ∧ (finishV P S D t k).1 ≤ 1000000 := by
  unfold finishV at *
  by_cases hc : (validB P S D && (timeB t && timeB k)) = true
  · rw [if_pos hc] at h ⊢
    simp only [Bool.and_eq_true] at hc
    have ht := hc.2.1
    unfold timeB at ht
    simp only [Bool.and_eq_true, decide_eq_true_eq] at ht
    have := found_le h
    omega
  · rw [if_neg hc] at h
    unfold errI at h
    exfalso
    revert h hc
    cases validB P S D <;> cases (timeB t && timeB k) <;> simp
theorem good_stop {s : ShopR} {L : List JobR} {l : List SlotR} (h : GoodS s L l) : ∀ x ∈ l, (0 ≤ x.job ∧ x.job < L.length) ∧ 0 ≤ x.stop ∧ x.stop ≤ 1000000 := by
  intro x hx
  have hn := nameB_iff.1 (good_named h x hx)
  refine ⟨hn.1, ?_⟩
  have := h.1 x hx
  have hs : shiftB s L x = true := by
    unfold slotE at this
    split at this
    · cases this
    · split at this
      · cases this
      · split at this
        · cases this
        · split at this
          · cases this
          · split at this
            · cases this
            · rename_i h; simpa using h
  unfold shiftB at hs
  simp only [Bool.and_eq_true, beq_iff_eq] at hs
  have := finish_le hs.2.1
  unfold finishAt at *
  rw [hs.2.2] at this
  omega
/-! Prices. -/
theorem tardyL_perm {L : List JobR} {l m : List SlotR} (h : l.Perm m) : tardyL L l = tardyL L m := by
  induction h with
  | nil => rfl
  | cons x _ ih => simp only [tardyL, ih]
  | swap x y l => simp only [tardyL]; omega
  | trans _ _ a b => rw [a, b]
theorem worst_perm {L : List JobR} {l m : List SlotR} (h : l.Perm m) : worstL L l = worstL L m := by
  refine h.foldl_eq' (fun x _ y _ z => ?_) 0
  simp only [imax_eq]
  split <;> split <;> omega
theorem end_perm {l m : List SlotR} (h : l.Perm m) : endL l = endL m := by
  refine h.foldl_eq' (fun x _ y _ z => ?_) 0
  simp only [imax_eq]
  omega
theorem hasB_perm {l m : List SlotR} (h : l.Perm m) (j : Nat) : hasB l j = hasB m j := by
  unfold hasB
  rw [Bool.eq_iff_iff]
  exact ⟨any_mono fun x hx => h.subset hx, any_mono fun x hx => h.symm.subset hx⟩
theorem price_perm {L : List JobR} {l m : List SlotR} (h : l.Perm m) : priceV L l = priceV L m := by
  unfold priceV missN
  rw [tardyL_perm h, worst_perm h, end_perm h, show hasB l = hasB m from funext (hasB_perm h)]
end Go.Proofs.Ytdcncalcncomoaa
