/- Layer 52 (the reference, plain): its slots, open orders and valid schedules are the program's. -/
import Derived.Test.YtdcncalcncomoaaSchP1
namespace Go.Proofs.Ytdcncalcncomoaa
open Go.RowKit
set_option linter.unusedVariables false

/-- The reference's follows does not ask for the error. -/
def followsR (s : ShopR) (L : List JobR) (x y : SlotR) : Bool := !decide (y.start < x.stop) && decide (setupAt s L x.job y.job ≤ (workAt s x.mach x.stop y.start).1)
def clashR (s : ShopR) (L : List JobR) (x y : SlotR) : Bool := (y.mach == x.mach) && (!followsR s L x y && !followsR s L y x)
def slotR (s : ShopR) (L : List JobR) (ahead : List SlotR) (x : SlotR) : Int :=
  if nameB s L x = false then 6 else if ahead.any (fun y => y.job == x.job) = true then 7 else if (jobAt L x.job).ms.any (fun m => m == x.mach) = false then 25 else if x.start < (jobAt L x.job).rel then 22 else
  if shiftB s L x = false then 26 else if ahead.any (clashR s L x) = true then 27 else 0
def TimesOk (s : ShopR) (x : SlotR) : Prop := validB (calAt s x.mach).P (calAt s x.mach).S (calAt s x.mach).D = true ∧ 0 ≤ x.start ∧ x.start ≤ 1000000 ∧ 0 ≤ x.stop ∧ x.stop ≤ 1000000
theorem shift_times {s : ShopR} {L : List JobR} {x : SlotR} (h : shiftB s L x = true) : TimesOk s x := by
  unfold shiftB at h
  rw [Bool.and_eq_true, Bool.and_eq_true, beq_iff_eq, beq_iff_eq] at h
  obtain ⟨h1, h2, h3⟩ := h
  unfold openAt openV at h1
  rw [Bool.and_eq_true, Bool.and_eq_true] at h1
  obtain ⟨⟨v, t⟩, -⟩ := h1
  rw [timeB_iff] at t
  unfold finishAt at h2 h3
  obtain ⟨c, e⟩ := finish_ok h2
  rw [e] at h2 h3
  have := found_le h2
  exact ⟨v, t.1, t.2, by omega, by omega⟩
theorem good_times {s : ShopR} {L : List JobR} {x : SlotR} (h : slotE s L [] x = 0) : TimesOk s x := by
  refine shift_times (L := L) ?_
  cases q : shiftB s L x
  · unfold slotE at h
    rw [q] at h
    revert h
    cases nameB s L x <;> cases (jobAt L x.job).ms.any (fun m => x.mach == m) <;> by_cases hr : x.start < (jobAt L x.job).rel <;> simp [hr]
  · rfl
theorem followsR_eq {s : ShopR} {L : List JobR} {x y : SlotR} (hx : TimesOk s x) (hy : TimesOk s y) : followsR s L x y = followsB s L x y := by
  unfold followsR followsB
  by_cases h : y.start < x.stop
  · simp [h]
  · obtain ⟨v, -, -, a, -⟩ := hx
    obtain ⟨-, -, b, -, -⟩ := hy
    have hc : checkB x.stop y.start = true := by unfold checkB; simp; omega
    have : (workAt s x.mach x.stop y.start).2 = 0 := by unfold workAt workV; rw [v, hc]; rfl
    rw [this]
    simp
theorem clashR_eq {s : ShopR} {L : List JobR} {x y : SlotR} (hx : TimesOk s x) (hy : TimesOk s y) : clashR s L x y = clashB s L x y := by
  unfold clashR clashB
  rw [followsR_eq hx hy, followsR_eq hy hx, Bool.and_comm (!followsB s L x y)]
theorem any_congr {α : Type} {p q : α → Bool} : ∀ {l : List α}, (∀ x ∈ l, p x = q x) → l.any p = l.any q
  | [], _ => rfl
  | a :: r, h => by rw [List.any_cons, List.any_cons, h a (by simp), any_congr fun x hx => h x (by simp [hx])]
theorem slotR_eq {s : ShopR} {L : List JobR} {ahead : List SlotR} {x : SlotR} (ha : ∀ y ∈ ahead, slotE s L [] y = 0) : slotR s L ahead x = slotE s L ahead x := by
  unfold slotR slotE
  rw [any_congr (l := (jobAt L x.job).ms) (p := fun m => m == x.mach) (q := fun m => x.mach == m) fun m _ => Bool.beq_comm]
  cases q : shiftB s L x
  · rfl
  · rw [any_congr (l := ahead) (p := clashR s L x) (q := clashB s L x) fun y hy => clashR_eq (shift_times q) (good_times (ha y hy))]

def ordK (L : List JobR) (l : List SlotR) (k : Nat) : Int := ordAt L (l.getD k noSlot)
def firstN (L : List JobR) (l : List SlotR) (k i : Nat) : Bool := (List.range i).all fun a => !(ordK L l a == ordK L l k) || decide (k ≤ a)
def begunI (L : List JobR) (t : Int) (l : List SlotR) (o : Int) : Bool := l.any fun x => ordAt L x == o && decide (x.start ≤ t)
def runI (L : List JobR) (t : Int) (l : List SlotR) (o : Int) : Bool := l.any fun x => ordAt L x == o && decide (t < x.stop)
def stepR (L : List JobR) (t : Int) (l : List SlotR) (k : Nat) : Bool := firstN L l k l.length && (begunI L t l (ordK L l k) && runI L t l (ordK L l k))
def openTR (L : List JobR) (t : Int) (l : List SlotR) (n : Nat) : Int := ((List.range n).countP (stepR L t l) : Nat)
def openR (L : List JobR) (t : Int) (l : List SlotR) : Int := openTR L t l l.length
theorem openTR_zero (L : List JobR) (t : Int) (l : List SlotR) : openTR L t l 0 = 0 := rfl
theorem openTR_succ (L : List JobR) (t : Int) (l : List SlotR) (n : Nat) : openTR L t l (n + 1) = openTR L t l n + (if stepR L t l n = true then 1 else 0) := by
  unfold openTR; rw [List.range_succ, List.countP_append]
  simp only [List.countP_singleton]
  split <;> simp
theorem openTR_le (L : List JobR) (t : Int) (l : List SlotR) (n : Nat) : 0 ≤ openTR L t l n ∧ openTR L t l n ≤ n := by
  unfold openTR
  have := List.countP_le_length (p := stepR L t l) (l := List.range n)
  rw [List.length_range] at this
  omega
theorem firstN_iff {L : List JobR} {l : List SlotR} {k n : Nat} (hk : k ≤ n) : firstN L l k n = !(List.range k).any (fun a => ordK L l a == ordK L l k) := by
  rw [Bool.eq_iff_iff]
  unfold firstN
  simp only [List.all_eq_true, List.mem_range, Bool.or_eq_true, Bool.not_eq_true', decide_eq_true_eq, List.any_eq_false]
  constructor
  · intro h a ha
    rcases h a (by omega) with h | h
    · rw [h]; simp
    · omega
  · intro h a ha
    by_cases q : a < k
    · have := h a q
      left
      simpa using this
    · right; omega
theorem count_firsts {L : List JobR} {l : List SlotR} (f : Int → Bool) (h : ∀ k, k < l.length → 0 ≤ ordK L l k ∧ ordK L l k ≤ 1000) : ∀ n, n ≤ l.length →
    (List.range n).countP (fun k => firstN L l k l.length && f (ordK L l k)) = (List.range 1001).countP (fun o => (List.range n).any (fun a => ordK L l a == ((o : Nat) : Int)) && f o)
  | 0, _ => by simp
  | n + 1, hn => by
    rw [List.range_succ, List.countP_append, count_firsts f h n (by omega), List.countP_singleton]
    obtain ⟨h0, h1⟩ := h n (by omega)
    rw [firstN_iff (k := n) (n := l.length) (by omega)]
    generalize hA : (fun o : Int => (List.range n).any (fun a => ordK L l a == o)) = A
    have e1 : ∀ o : Int, (List.range n).any (fun a => ordK L l a == o) = A o := fun o => by rw [← hA]
    have e2 : ∀ o : Nat, (List.range n ++ [n]).any (fun a => ordK L l a == (o : Int)) = (A o || ordK L l n == (o : Int)) := fun o => by rw [List.any_append, e1]; simp
    simp only [e1, e2]
    obtain ⟨i, hi⟩ : ∃ i : Nat, ordK L l n = i := ⟨(ordK L l n).toNat, by omega⟩
    rw [hi]
    have hil : i < 1001 := by omega
    cases hf : f i
    · rw [Bool.and_false, if_neg (by simp), Nat.add_zero]
      refine List.countP_congr fun o ho => ?_
      by_cases q : i = o
      · subst q; rw [hf]; simp
      · rw [show ((i : Int) == (o : Int)) = false from by simp; omega, Bool.or_false]
    · rw [Bool.and_true]
      have e3 : (List.range 1001).countP (fun o : Nat => (A o || ((i : Int) == (o : Int))) && f o) = (List.range 1001).countP (fun o : Nat => (A o && f o) || ((i : Int) == (o : Int))) := by
        refine List.countP_congr fun o ho => ?_
        by_cases q : i = o
        · subst q; rw [hf]; simp
        · rw [show ((i : Int) == (o : Int)) = false from by simp; omega, Bool.or_false, Bool.or_false]
      rw [e3, cnt_set (fun o : Nat => A o && f o) i 1001, hf, Bool.and_true]
      cases A i <;> simp [hil]
theorem openR_eq {L : List JobR} {t : Int} {l : List SlotR} (h : ∀ x ∈ l, 0 ≤ ordAt L x ∧ ordAt L x ≤ 1000) : openR L t l = openN L t l := by
  have hk : ∀ k, k < l.length → 0 ≤ ordK L l k ∧ ordK L l k ≤ 1000 := fun k hk => by unfold ordK; rw [getS_at hk]; exact h _ (List.getElem_mem hk)
  have := count_firsts (L := L) (l := l) (fun o => begunI L t l o && runI L t l o) hk l.length (Nat.le_refl _)
  unfold openR openTR openN openTo
  have e : (List.range l.length).countP (stepR L t l) = (List.range l.length).countP (fun k => firstN L l k l.length && (begunI L t l (ordK L l k) && runI L t l (ordK L l k))) := rfl
  rw [e, this]
  refine congrArg (fun n : Nat => (n : Int)) (List.countP_congr fun o ho => ?_)
  have e1 : begunB L t l o = begunI L t l o := rfl
  have e2 : unfinB L t l o = runI L t l o := rfl
  rw [e1, e2]
  constructor
  · intro q; rw [Bool.and_eq_true] at q; exact q.2
  · intro q
    rw [Bool.and_eq_true]
    refine ⟨?_, q⟩
    rw [Bool.and_eq_true] at q
    have q1 := q.1
    unfold begunI at q1
    rw [List.any_eq_true] at q1
    obtain ⟨x, hx, hp⟩ := q1
    rw [Bool.and_eq_true] at hp
    obtain ⟨k, hk, rfl⟩ := List.getElem_of_mem hx
    rw [List.any_eq_true]
    exact ⟨k, by simpa using hk, by unfold ordK; rw [getS_at hk]; exact hp.1⟩

def fitR (s : ShopR) (L : List JobR) (l : List SlotR) (k : Nat) : Int := slotR s L (l.take k) (l.getD k noSlot)
def openRE (s : ShopR) (L : List JobR) (l : List SlotR) (k : Nat) : Int := if s.most < openR L (l.getD k noSlot).start l then 28 else 0
def validR (s : ShopR) (L : List JobR) (l : List SlotR) : Int × Int :=
  match firstBad (fitR s L l) (List.range l.length) with
  | some (i, e) => (i, e)
  | none => match firstBad (openRE s L l) (List.range l.length) with
    | some (i, e) => (i, e)
    | none => (l.length, 0)
theorem firstBad_same {f g : Nat → Int} {n : Nat} (h : ∀ k, k < n → (∀ j, j < k → g j = 0) → f k = g k) : ∀ m k, n - k = m → (∀ j, j < k → g j = 0) → firstBad f ((List.range n).drop k) = firstBad g ((List.range n).drop k)
  | 0, k, hm, h0 => by
    rw [List.drop_eq_nil_of_le (by simp; omega)]
    rfl
  | m + 1, k, hm, h0 => by
    have hk : k < n := by omega
    rw [firstBad_drop _ hk, firstBad_drop _ hk, h k hk h0]
    by_cases q : g k = 0
    · rw [if_pos q, if_pos q]
      refine firstBad_same h m (k + 1) (by omega) fun j hj => ?_
      by_cases e : j = k
      · rw [e]; exact q
      · exact h0 j (by omega)
    · rw [if_neg q, if_neg q]
theorem validR_eq {s : ShopR} {L : List JobR} {l : List SlotR} (hord : ∀ j ∈ L, 0 ≤ j.ord ∧ j.ord ≤ 1000) : validR s L l = validV s L l := by
  have e1 : firstBad (fitR s L l) (List.range l.length) = firstBad (fitE s L l) (List.range l.length) := by
    refine firstBad_same (n := l.length) (fun k hk h0 => ?_) l.length 0 rfl (fun j hj => by omega)
    unfold fitR fitE
    refine slotR_eq fun y hy => ?_
    rw [List.mem_take_iff_getElem] at hy
    obtain ⟨i, hi, rfl⟩ := hy
    have := h0 i (by omega)
    unfold fitE at this
    rw [getS_at (by omega)] at this
    exact (slotE_iff.1 this).1
  unfold validR validV
  rw [e1]
  cases q : firstBad (fitE s L l) (List.range l.length) with
  | some x => rfl
  | none =>
    have hz := (firstBad_iff _).1 q
    have hg : ∀ x ∈ l, 0 ≤ ordAt L x ∧ ordAt L x ≤ 1000 := by
      intro x hx
      obtain ⟨k, hk, rfl⟩ := List.getElem_of_mem hx
      have := hz k (by simpa using hk)
      unfold fitE at this
      rw [getS_at hk] at this
      obtain ⟨⟨a, b⟩, -⟩ := nameB_iff.1 (named_of this)
      unfold ordAt
      obtain ⟨m, hm⟩ : ∃ m : Nat, l[k].job = m := ⟨l[k].job.toNat, by omega⟩
      rw [hm, jobAt_at (by omega)]
      exact hord _ (List.getElem_mem _)
    have e2 : firstBad (openRE s L l) (List.range l.length) = firstBad (openE s L l) (List.range l.length) := by
      refine firstBad_congr fun k hk => ?_
      unfold openRE openE
      rw [openR_eq hg]
    simp only
    rw [e2]
    rfl
theorem any_orders {s : ShopR} {L : List JobR} (h : checkS s L = true) : ∀ j ∈ L, 0 ≤ j.ord ∧ j.ord ≤ 1000 := fun j hj => (job_parts (check_job h hj)).2.2.2.2.2.2
theorem validRT_eq (s : ShopR) (L : List JobR) (l : List SlotR) : (if refCheckB s L = true then validR s L l else (0, 1)) = validT s L l := by
  unfold validT
  rw [refCheck_eq]
  by_cases h : checkS s L = true
  · rw [if_pos h, if_pos h, validR_eq (any_orders h)]
  · rw [if_neg h, if_neg h]
end Go.Proofs.Ytdcncalcncomoaa
