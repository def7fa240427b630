/- Layer 54 (plain): the insertion sort of jobs by their due times is the stable order. -/
import Derived.Test.YtpaojgfmffkodaaGreatLRepP8
import Derived.Sort.LotA
namespace Go.Proofs.YtpaojgfmffkodaaGreat
set_option linter.unusedVariables false
set_option linter.unusedSimpArgs false
open Go.RowKit Go.Sort
section
variable {α : Type}
def insA (f : α → Int) (i : α) : List α → List α
  | [] => [i]
  | y :: r => if f i < f y then i :: y :: r else y :: insA f i r
theorem insA_length (f : α → Int) (i : α) : ∀ l, (insA f i l).length = l.length + 1
  | [] => rfl
  | y :: r => by
    unfold insA
    split
    · rfl
    · simp [insA_length f i r]
theorem insA_mem (f : α → Int) (i : α) : ∀ {l : List α} {z : α}, z ∈ insA f i l → z = i ∨ z ∈ l
  | [], z, h => by unfold insA at h; simp at h; exact .inl h
  | y :: r, z, h => by
    unfold insA at h
    split at h
    · rcases List.mem_cons.1 h with h | h
      · exact .inl h
      · exact .inr h
    · rcases List.mem_cons.1 h with h | h
      · exact .inr (by simp [h])
      · rcases insA_mem f i h with h | h
        · exact .inl h
        · exact .inr (by simp [h])
theorem insA_sorted (f : α → Int) (i : α) : ∀ {l : List α}, l.Pairwise (fun a b => f a ≤ f b) → (insA f i l).Pairwise (fun a b => f a ≤ f b)
  | [], _ => by unfold insA; simp
  | y :: r, h => by
    rw [List.pairwise_cons] at h
    unfold insA
    split
    · rename_i hle
      rw [List.pairwise_cons]
      refine ⟨fun z hz => ?_, List.pairwise_cons.2 h⟩
      rcases List.mem_cons.1 hz with rfl | hz
      · omega
      · have := h.1 z hz; omega
    · rename_i hle
      rw [List.pairwise_cons]
      refine ⟨fun z hz => ?_, insA_sorted f i h.2⟩
      rcases insA_mem f i hz with rfl | hz
      · omega
      · exact h.1 z hz
theorem insA_last (f : α → Int) (x y : α) (h : f x < f y) : ∀ l, insA f x (l ++ [y]) = insA f x l ++ [y]
  | [] => by simp [insA, h]
  | a :: l => by
    rw [List.cons_append]
    unfold insA
    split
    · rfl
    · rw [insA_last f x y h l]; rfl
theorem insA_end (f : α → Int) (x : α) : ∀ {l : List α}, (∀ y ∈ l, f y ≤ f x) → insA f x l = l ++ [x]
  | [], _ => rfl
  | a :: l, h => by
    unfold insA
    rw [if_neg (by have := h a (by simp); omega), insA_end f x (fun y hy => h y (by simp [hy]))]
    rfl
variable [Inhabited α]
theorem get_mid (l : List α) (a : α) (r : List α) : (l ++ a :: r).toArray[l.length]! = a := by
  rw [getElem!_pos _ _ (by simp)]
  simp
theorem get_mid1 (l : List α) (a b : α) (r : List α) : (l ++ a :: b :: r).toArray[l.length + 1]! = b := by
  rw [getElem!_pos _ _ (by simp)]
  simp
theorem swp_mid (l : List α) (a b : α) (r : List α) : swp (l ++ a :: b :: r).toArray (l.length + 1) l.length = (l ++ b :: a :: r).toArray := by
  unfold swp
  rw [get_mid, get_mid1]
  apply Array.ext'
  rw [Array.toList_setIfInBounds, Array.toList_setIfInBounds]
  show ((l ++ a :: b :: r).set (l.length + 1) a).set l.length b = l ++ b :: a :: r
  rw [List.set_append_right _ _ (by omega), show l.length + 1 - l.length = 1 from by omega, List.set_append_right _ _ (by omega), Nat.sub_self]
  rfl
theorem insInner_list (f : α → Int) (lt : α → α → Bool) (hlt : ∀ x y, lt x y = decide (f x < f y)) (x : α) : ∀ (n : Nat) (l r : List α), l.length = n → l.Pairwise (fun a b => f a ≤ f b) → insInner lt 0 n (l ++ x :: r).toArray = (insA f x l ++ r).toArray
  | 0, l, r, hn, _ => by
    obtain rfl := List.eq_nil_of_length_eq_zero hn
    rfl
  | n + 1, l, r, hn, hs => by
    have hne : l ≠ [] := by intro e; rw [e] at hn; cases hn
    obtain ⟨l', y, rfl⟩ : ∃ l' y, l = l' ++ [y] := ⟨l.dropLast, l.getLast hne, (List.dropLast_concat_getLast hne).symm⟩
    have hl' : l'.length = n := by simpa using hn
    rw [List.append_assoc]
    show insInner lt 0 (n + 1) (l' ++ y :: x :: r).toArray = _
    unfold insInner
    have e1 : (l' ++ y :: x :: r).toArray[n]! = y := by rw [← hl']; exact get_mid l' y (x :: r)
    have e2 : (l' ++ y :: x :: r).toArray[n + 1]! = x := by rw [← hl']; exact get_mid1 l' y x r
    rw [e1, e2, hlt]
    rw [List.pairwise_append] at hs
    by_cases h : f x < f y
    · rw [if_pos (by simp [h])]
      have e3 := swp_mid l' y x r
      rw [hl'] at e3
      rw [e3, insInner_list f lt hlt x n l' (y :: r) hl' hs.1, insA_last f x y h, List.append_assoc]
      rfl
    · rw [if_neg (by simp [h])]
      rw [insA_end f x (fun z hz => ?_)]
      · simp
      · rcases List.mem_append.1 hz with hz | hz
        · have := hs.2.2 z hz y (by simp)
          omega
        · rw [List.mem_singleton] at hz
          subst hz
          omega
theorem insOuter_list (f : α → Int) (lt : α → α → Bool) (hlt : ∀ x y, lt x y = decide (f x < f y)) : ∀ (r l : List α), l.Pairwise (fun a b => f a ≤ f b) → insOuter lt 0 (l.length + r.length) l.length (l ++ r).toArray = (r.foldl (fun out i => insA f i out) l).toArray
  | [], l, hs => by
    rw [insOuter, if_neg (by simp)]
    simp
  | x :: r, l, hs => by
    rw [insOuter, if_pos (by simp), insInner_list f lt hlt x l.length l r rfl hs]
    have hl : (insA f x l).length = l.length + 1 := insA_length f x l
    have := insOuter_list f lt hlt r (insA f x l) (insA_sorted f x hs)
    rw [hl] at this
    rw [show l.length + (x :: r).length = l.length + 1 + r.length from by simp; omega]
    exact this
theorem insertion_sortA (f : α → Int) (lt : α → α → Bool) (hlt : ∀ x y, lt x y = decide (f x < f y)) (l : List α) : insertionSort lt l.toArray 0 l.length = (l.foldl (fun out i => insA f i out) []).toArray := by
  unfold insertionSort
  cases l with
  | nil => rw [insOuter, if_neg (by simp)]; rfl
  | cons x r =>
    have := insOuter_list f lt hlt r [x] (by simp)
    simp only [List.length_singleton, List.singleton_append] at this
    rw [show (x :: r).length = 1 + r.length from by simp; omega]
    exact this
end
theorem insA_map {α : Type} (f : Int → Int) (g : α → Int) (i : α) : ∀ l : List α, (insA (fun x => f (g x)) i l).map g = insD f (g i) (l.map g)
  | [] => rfl
  | y :: r => by
    unfold insA
    rw [List.map_cons]
    unfold insD
    split
    · rfl
    · rw [List.map_cons, insA_map f g i r]
theorem foldA_map {α : Type} (f : Int → Int) (g : α → Int) : ∀ (l acc : List α), (l.foldl (fun out i => insA (fun x => f (g x)) i out) acc).map g = (l.map g).foldl (fun out i => insD f i out) (acc.map g)
  | [], acc => rfl
  | x :: r, acc => by
    rw [List.foldl_cons, foldA_map f g r, insA_map, List.map_cons, List.foldl_cons]
end Go.Proofs.YtpaojgfmffkodaaGreat
/- Layer 54 (plain): every list of kept slots is a set of bits. -/
namespace Go.Proofs.YtpaojgfmffkodaaGreat
set_option linter.unusedVariables false
set_option linter.unusedSimpArgs false
open Go.RowKit Go.Sort
theorem exists_bits (p : Nat → Bool) : ∀ n, ∃ s, s < 2 ^ n ∧ ∀ i, i < n → s.testBit i = p i
  | 0 => ⟨0, by simp, fun i hi => by omega⟩
  | n + 1 => by
    obtain ⟨s, h1, h2⟩ := exists_bits p n
    have h3 : s.testBit n = false := Nat.testBit_lt_two_pow h1
    cases hp : p n
    · refine ⟨s, by rw [Nat.pow_succ]; omega, fun i hi => ?_⟩
      by_cases e : i = n
      · rw [e, h3, hp]
      · exact h2 i (by omega)
    · refine ⟨2 ^ n + s, by rw [Nat.pow_succ]; omega, fun i hi => ?_⟩
      by_cases e : i = n
      · rw [e, Nat.testBit_two_pow_add_eq, h3, hp]; rfl
      · rw [Nat.testBit_two_pow_add_gt (by omega)]
        exact h2 i (by omega)
theorem keptB_sorted {n : Nat} : ∀ {l : List Int} {last : Int}, -1 ≤ last → keptB n last l = true → l.Pairwise (· ≤ ·)
  | [], _, _, _ => by simp
  | a :: r, last, h0, h => by
    unfold keptB at h
    simp only [Bool.and_eq_true, decide_eq_true_eq] at h
    obtain ⟨⟨h1, h2⟩, h3⟩ := h
    rw [List.pairwise_cons]
    exact ⟨fun x hx => by have := keptB_mem (by omega) h3 x hx; omega, keptB_sorted (by omega) h3⟩
theorem kept_bits {n : Nat} {kept : List Int} (h : keptB n (-1) kept = true) : ∃ s, s < 2 ^ n ∧ bitsL n s = kept := by
  obtain ⟨s, h1, h2⟩ := exists_bits (fun i => kept.contains (i : Int)) n
  refine ⟨s, h1, ?_⟩
  have hb := bitsL_kept n s
  refine sorted_unique ((List.perm_ext_iff_of_nodup (keptB_nodup (by omega) hb) (keptB_nodup (by omega) h)).2 fun a => ?_) (keptB_sorted (by omega) hb) (keptB_sorted (by omega) h) (fun a b _ _ h1 h2 => Int.le_antisymm h1 h2)
  unfold bitsL
  rw [List.mem_map]
  constructor
  · rintro ⟨i, hi, rfl⟩
    rw [List.mem_filter, List.mem_range] at hi
    rw [h2 i hi.1] at hi
    simpa using hi.2
  · intro ha
    have hm := keptB_mem (by omega) h a ha
    refine ⟨a.toNat, ?_, by omega⟩
    rw [List.mem_filter, List.mem_range, h2 a.toNat (by omega)]
    refine ⟨by omega, ?_⟩
    rw [show ((a.toNat : Nat) : Int) = a from by omega]
    simpa using ha
end Go.Proofs.YtpaojgfmffkodaaGreat
/- Layer 54 (plain): the least change is not greater than any other. -/
namespace Go.Proofs.YtpaojgfmffkodaaGreat
set_option linter.unusedVariables false
set_option linter.unusedSimpArgs false
open Go.RowKit Go.Sort
def LeR (a b : ResR) : Prop := a.left.length < b.left.length ∨ (a.left.length = b.left.length ∧ a.moved.length ≤ b.moved.length)
theorem LeR.refl (a : ResR) : LeR a a := .inr ⟨rfl, Nat.le_refl _⟩
theorem LeR.trans {a b c : ResR} (h : LeR a b) (k : LeR b c) : LeR a c := by unfold LeR at *; omega
theorem better_le {L : List JobR} {a b : ResR} (h : betterB L a b = true) : LeR a b := by
  unfold betterB at h
  unfold LeR
  split at h
  · simp at h; omega
  · split at h
    · simp at h; omega
    · omega
theorem not_better_le {L : List JobR} {a b : ResR} (h : betterB L a b = false) : LeR b a := by
  unfold betterB at h
  unfold LeR
  split at h
  · simp at h; omega
  · split at h
    · simp at h; omega
    · omega
theorem leastStep_le (x : StP) (best : Option ResR) (k : Nat) : (∀ b, best = some b → ∃ r, leastStep x best k = some r ∧ LeR r b) ∧ ((keepV x (bitsL x.pd.length k)).1 = 0 → ∃ r, leastStep x best k = some r ∧ LeR r (keepV x (bitsL x.pd.length k)).2) := by
  unfold leastStep
  by_cases h : (keepV x (bitsL x.pd.length k)).1 = 0
  · rw [if_pos h]
    cases best with
    | none => exact ⟨(fun b hb => by cases hb), fun _ => ⟨_, rfl, LeR.refl _⟩⟩
    | some b =>
      simp only
      cases hb : betterB x.L (keepV x (bitsL x.pd.length k)).2 b
      · rw [if_neg (by simp)]
        exact ⟨(fun c hc => by injection hc with hc; subst hc; exact ⟨_, rfl, LeR.refl _⟩), fun _ => ⟨_, rfl, not_better_le hb⟩⟩
      · rw [if_pos rfl]
        exact ⟨(fun c hc => by injection hc with hc; subst hc; exact ⟨_, rfl, better_le hb⟩), fun _ => ⟨_, rfl, LeR.refl _⟩⟩
  · rw [if_neg h]
    exact ⟨fun b hb => ⟨b, hb, LeR.refl _⟩, fun e => absurd e h⟩
theorem leastTo_le (x : StP) : ∀ (k : Nat) (best : Option ResR), (∀ b, best = some b → ∃ r, leastTo x k best = some r ∧ LeR r b) ∧ (∀ s, s < k → (keepV x (bitsL x.pd.length s)).1 = 0 → ∃ r, leastTo x k best = some r ∧ LeR r (keepV x (bitsL x.pd.length s)).2)
  | 0, best => ⟨fun b hb => ⟨b, hb, LeR.refl _⟩, fun s hs => by omega⟩
  | k + 1, best => by
    obtain ⟨h1, h2⟩ := leastTo_le x k (leastStep x best k)
    obtain ⟨h3, h4⟩ := leastStep_le x best k
    refine ⟨fun b hb => ?_, fun s hs hk => ?_⟩
    · obtain ⟨r, hr, hl⟩ := h3 b hb
      obtain ⟨r2, hr2, hl2⟩ := h1 r hr
      exact ⟨r2, hr2, hl2.trans hl⟩
    · by_cases e : s = k
      · rw [e] at hk ⊢
        obtain ⟨r, hr, hl⟩ := h4 hk
        obtain ⟨r2, hr2, hl2⟩ := h1 r hr
        exact ⟨r2, hr2, hl2.trans hl⟩
      · exact h2 s (by omega) hk
theorem least_le {x : StP} (hp : x.pd.length ≤ 8) {kept : List Int} (h : (keepV x kept).1 = 0) : (leastV x).1 = 0 ∧ LeR (leastV x).2 (keepV x kept).2 := by
  have hk : keptB x.pd.length (-1) kept = true := by
    unfold keepV at h
    by_cases hk : keptB x.pd.length (-1) kept = true
    · exact hk
    · rw [if_neg hk] at h; cases h
  obtain ⟨s, h1, rfl⟩ := kept_bits hk
  obtain ⟨r, hr, hl⟩ := (leastTo_le x (2 ^ x.pd.length) none).2 s h1 h
  unfold leastV
  rw [if_neg (by omega), hr]
  exact ⟨rfl, hl⟩
end Go.Proofs.YtpaojgfmffkodaaGreat
/- Layer 54 (plain): valid schedules, no events, local changes. -/
namespace Go.Proofs.YtpaojgfmffkodaaGreat
set_option linter.unusedVariables false
set_option linter.unusedSimpArgs false
open Go.RowKit Go.Sort
section
variable {s : ShopR} {L : List JobR} {plan : List SlotR} {now : Int} {evs : List EvR} {x1 x : StP} {b : List SlotR}
theorem Applied.xs (h : Applied s L plan now evs x1 b x) : x.s = x1.s ∧ x.L = x1.L.mapIdx (laterJ x1.bg now) ∧ x.bg = b ∧ x.dr = x1.dr := by rw [h.x]; exact ⟨rfl, rfl, rfl, rfl⟩
theorem Applied.job (h : Applied s L plan now evs x1 b x) {y : SlotR} (hy : y ∈ plan) : y.job < x.L.length ∧ 0 ≤ y.job ∧ (jobAt x.L y.job).ms = (jobAt (erL L) y.job).ms ∧ (jobAt x.L y.job).dur = (jobAt (erL L) y.job).dur ∧ (jobAt x.L y.job).cls = (jobAt (erL L) y.job).cls ∧ (jobAt x.L y.job).ord = (jobAt (erL L) y.job).ord ∧ ¬ y.start < (jobAt x.L y.job).rel := by
  obtain ⟨e1, e2, e3, e4⟩ := h.xs
  have hp := good_stop h.good y hy
  have hl := h.inv.le
  have hl0 : (startV s L plan now).L.length = L.length := erL_length L
  obtain ⟨j, hj⟩ : ∃ j : Nat, y.job = j := ⟨y.job.toNat, by omega⟩
  have hjl : j < x1.L.length := by omega
  have hs := h.inv.same j (by omega)
  have hg : GoodS (startV s L plan now).s (startV s L plan now).L plan := goodS_er.2 h.good
  have hrel := (slot_parts.1 (hg.1 y hy)).2.2.1
  have hs2 : jobAt x1.L j = jobAt (erL L) j := hs
  rw [e2, hj, later_at _ _ hjl, hs2]
  refine ⟨by simpa using hjl, by omega, ?_⟩
  have hrel2 : ¬ y.start < (jobAt (erL L) y.job).rel := hrel
  rw [hj] at hrel2
  unfold laterJ
  cases hb : begunJ x1.bg j
  · rw [if_neg (by simp)]
    refine ⟨rfl, rfl, rfl, rfl, ?_⟩
    have hn : now ≤ y.start := by
      rcases Int.lt_or_le y.start now with h5 | h5
      · exfalso
        have : begunJ x1.bg y.job = true := by
          refine begunJ_mem ?_
          rw [h.inv.bg]
          exact List.mem_filter.2 ⟨hy, by simpa using h5⟩
        rw [hj, hb] at this
        cases this
      · exact h5
    show ¬ y.start < imax _ now
    unfold imax
    split <;> omega
  · rw [if_pos rfl]
    exact ⟨rfl, rfl, rfl, rfl, hrel2⟩
end
end Go.Proofs.YtpaojgfmffkodaaGreat
