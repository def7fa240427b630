/- Layer 54 (plain): the insertion sort of jobs by their due times is the stable order. -/
import Derived.Test.YtpaojgfmffkodaaGreatVRepP8
import Derived.Sort.LotA
namespace Go.Proofs.YtpaojgfmffkodaaGreat
set_option linter.unusedVariables false
set_option linter.unusedSimpArgs false
open Go.RowKit Go.Sort

section
variable {α : Type}
def insA (f : α → Int) (i : α) : List α → List α
  | [] => [i]
  | y :: r => if f i < f y then i :: y :: r else y :: insA f i r
theorem insA_length (f : α → Int) (i : α) : ∀ l, (insA f i l).length = l.length + 1
  | [] => rfl
  | y :: r => by
    unfold insA
    split
    · rfl
    · simp [insA_length f i r]
theorem insA_mem (f : α → Int) (i : α) : ∀ {l : List α} {z : α}, z ∈ insA f i l → z = i ∨ z ∈ l
  | [], z, h => by unfold insA at h; simp at h; exact .inl h
  | y :: r, z, h => by
    unfold insA at h
    split at h
    · rcases List.mem_cons.1 h with h | h
      · exact .inl h
      · exact .inr h
    · rcases List.mem_cons.1 h with h | h
      · exact .inr (by simp [h])
      · rcases insA_mem f i h with h | h
        · exact .inl h
        · exact .inr (by simp [h])
theorem insA_sorted (f : α → Int) (i : α) : ∀ {l : List α}, l.Pairwise (fun a b => f a ≤ f b) → (insA f i l).Pairwise (fun a b => f a ≤ f b)
  | [], _ => by unfold insA; simp
  | y :: r, h => by
    rw [List.pairwise_cons] at h
    unfold insA
    split
    · rename_i hle
      rw [List.pairwise_cons]
      refine ⟨fun z hz => ?_, List.pairwise_cons.2 h⟩
      rcases List.mem_cons.1 hz with rfl | hz
      · omega
      · have := h.1 z hz; omega
    · rename_i hle
      rw [List.pairwise_cons]
      refine ⟨fun z hz => ?_, insA_sorted f i h.2⟩
      rcases insA_mem f i hz with rfl | hz
      · omega
      · exact h.1 z hz
theorem insA_last (f : α → Int) (x y : α) (h : f x < f y) : ∀ l, insA f x (l ++ [y]) = insA f x l ++ [y]
  | [] => by simp [insA, h]
  | a :: l => by
    rw [List.cons_append]
    unfold insA
    split
    · rfl
    · rw [insA_last f x y h l]; rfl
theorem insA_end (f : α → Int) (x : α) : ∀ {l : List α}, (∀ y ∈ l, f y ≤ f x) → insA f x l = l ++ [x]
  | [], _ => rfl
  | a :: l, h => by
    unfold insA
    rw [if_neg (by have := h a (by simp); omega), insA_end f x (fun y hy => h y (by simp [hy]))]
    rfl
variable [Inhabited α]
theorem get_mid (l : List α) (a : α) (r : List α) : (l ++ a :: r).toArray[l.length]! = a := by
  rw [getElem!_pos _ _ (by simp)]
  simp
theorem get_mid1 (l : List α) (a b : α) (r : List α) : (l ++ a :: b :: r).toArray[l.length + 1]! = b := by
  rw [getElem!_pos _ _ (by simp)]
  simp
theorem swp_mid (l : List α) (a b : α) (r : List α) : swp (l ++ a :: b :: r).toArray (l.length + 1) l.length = (l ++ b :: a :: r).toArray := by
  unfold swp
  rw [get_mid, get_mid1]
  apply Array.ext'
  rw [Array.toList_setIfInBounds, Array.toList_setIfInBounds]
  show ((l ++ a :: b :: r).set (l.length + 1) a).set l.length b = l ++ b :: a :: r
  rw [List.set_append_right _ _ (by omega), show l.length + 1 - l.length = 1 from by omega, List.set_append_right _ _ (by omega), Nat.sub_self]
  rfl
theorem insInner_list (f : α → Int) (lt : α → α → Bool) (hlt : ∀ x y, lt x y = decide (f x < f y)) (x : α) : ∀ (n : Nat) (l r : List α), l.length = n → l.Pairwise (fun a b => f a ≤ f b) → insInner lt 0 n (l ++ x :: r).toArray = (insA f x l ++ r).toArray
  | 0, l, r, hn, _ => by
    obtain rfl := List.eq_nil_of_length_eq_zero hn
    rfl
  | n + 1, l, r, hn, hs => by
    have hne : l ≠ [] := by intro e; rw [e] at hn; cases hn
    obtain ⟨l', y, rfl⟩ : ∃ l' y, l = l' ++ [y] := ⟨l.dropLast, l.getLast hne, (List.dropLast_concat_getLast hne).symm⟩
    have hl' : l'.length = n := by simpa using hn
    rw [List.append_assoc]
    show insInner lt 0 (n + 1) (l' ++ y :: x :: r).toArray = _
    unfold insInner
    have e1 : (l' ++ y :: x :: r).toArray[n]! = y := by rw [← hl']; exact get_mid l' y (x :: r)
    have e2 : (l' ++ y :: x :: r).toArray[n + 1]! = x := by rw [← hl']; exact get_mid1 l' y x r
    rw [e1, e2, hlt]
    rw [List.pairwise_append] at hs
    by_cases h : f x < f y
    · rw [if_pos (by simp [h])]
      have e3 := swp_mid l' y x r
      rw [hl'] at e3
      rw [e3, insInner_list f lt hlt x n l' (y :: r) hl' hs.1, insA_last f x y h, List.append_assoc]
      rfl
    · rw [if_neg (by simp [h])]
      rw [insA_end f x (fun z hz => ?_)]
      · simp
      · rcases List.mem_append.1 hz with hz | hz
        · have := hs.2.2 z hz y (by simp)
          omega
        · rw [List.mem_singleton] at hz
          subst hz
          omega
theorem insOuter_list (f : α → Int) (lt : α → α → Bool) (hlt : ∀ x y, lt x y = decide (f x < f y)) : ∀ (r l : List α), l.Pairwise (fun a b => f a ≤ f b) → insOuter lt 0 (l.length + r.length) l.length (l ++ r).toArray = (r.foldl (fun out i => insA f i out) l).toArray
  | [], l, hs => by
    rw [insOuter, if_neg (by simp)]
    simp
  | x :: r, l, hs => by
    rw [insOuter, if_pos (by simp), insInner_list f lt hlt x l.length l r rfl hs]
    have hl : (insA f x l).length = l.length + 1 := insA_length f x l
    have := insOuter_list f lt hlt r (insA f x l) (insA_sorted f x hs)
    rw [hl] at this
    rw [show l.length + (x :: r).length = l.length + 1 + r.length from by simp; omega]
    exact this
theorem insertion_sortA (f : α → Int) (lt : α → α → Bool) (hlt : ∀ x y, lt x y = decide (f x < f y)) (l : List α) : insertionSort lt l.toArray 0 l.length = (l.foldl (fun out i => insA f i out) []).toArray := by
  unfold insertionSort
  cases l with
  | nil => rw [insOuter, if_neg (by simp)]; rfl
  | cons x r =>
    have := insOuter_list f lt hlt r [x] (by simp)
    simp only [List.length_singleton, List.singleton_append] at this
    rw [show (x :: r).length = 1 + r.length from by simp; omega]
    exact this
end
theorem insA_map {α : Type} (f : Int → Int) (g : α → Int) (i : α) : ∀ l : List α, (insA (fun x => f (g x)) i l).map g = insD f (g i) (l.map g)
  | [] => rfl
  | y :: r => by
    unfold insA
    rw [List.map_cons]
    unfold insD
    split
    · rfl
    · rw [List.map_cons, insA_map f g i r]
theorem foldA_map {α : Type} (f : Int → Int) (g : α → Int) : ∀ (l acc : List α), (l.foldl (fun out i => insA (fun x => f (g x)) i out) acc).map g = (l.map g).foldl (fun out i => insD f i out) (acc.map g)
  | [], acc => rfl
  | x :: r, acc => by
    rw [List.foldl_cons, foldA_map f g r, insA_map, List.map_cons, List.foldl_cons]
end Go.Proofs.YtpaojgfmffkodaaGreat
/- Layer 54 (plain): every list of kept slots is a set of bits. -/
namespace Go.Proofs.YtpaojgfmffkodaaGreat
set_option linter.unusedVariables false
set_option linter.unusedSimpArgs false
open Go.RowKit Go.Sort

theorem exists_bits (p : Nat → Bool) : ∀ n, ∃ s, s < 2 ^ n ∧ ∀ i, i < n → s.testBit i = p i
  | 0 => ⟨0, by simp, fun i hi => by omega⟩
  | n + 1 => by
    obtain ⟨s, h1, h2⟩ := exists_bits p n
    have h3 : s.testBit n = false := Nat.testBit_lt_two_pow h1
    cases hp : p n
    · refine ⟨s, by rw [Nat.pow_succ]; omega, fun i hi => ?_⟩
      by_cases e : i = n
      · rw [e, h3, hp]
      · exact h2 i (by omega)
    · refine ⟨2 ^ n + s, by rw [Nat.pow_succ]; omega, fun i hi => ?_⟩
      by_cases e : i = n
      · rw [e, Nat.testBit_two_pow_add_eq, h3, hp]; rfl
      · rw [Nat.testBit_two_pow_add_gt (by omega)]
        exact h2 i (by omega)
theorem keptB_sorted {n : Nat} : ∀ {l : List Int} {last : Int}, -1 ≤ last → keptB n last l = true → l.Pairwise (· ≤ ·)
  | [], _, _, _ => by simp
  | a :: r, last, h0, h => by
    unfold keptB at h
    simp only [Bool.and_eq_true, decide_eq_true_eq] at h
    obtain ⟨⟨h1, h2⟩, h3⟩ := h
    rw [List.pairwise_cons]
    exact ⟨fun x hx => by have := keptB_mem (by omega) h3 x hx; omega, keptB_sorted (by omega) h3⟩
theorem kept_bits {n : Nat} {kept : List Int} (h : keptB n (-1) kept = true) : ∃ s, s < 2 ^ n ∧ bitsL n s = kept := by
  obtain ⟨s, h1, h2⟩ := exists_bits (fun i => kept.contains (i : Int)) n
  refine ⟨s, h1, ?_⟩
  have hb := bitsL_kept n s
  refine sorted_unique ((List.perm_ext_iff_of_nodup (keptB_nodup (by omega) hb) (keptB_nodup (by omega) h)).2 fun a => ?_) (keptB_sorted (by omega) hb) (keptB_sorted (by omega) h) (fun a b _ _ h1 h2 => Int.le_antisymm h1 h2)
  unfold bitsL
  rw [List.mem_map]
  constructor
  · rintro ⟨i, hi, rfl⟩
    rw [List.mem_filter, List.mem_range] at hi
    rw [h2 i hi.1] at hi
    simpa using hi.2
  · intro ha
    have hm := keptB_mem (by omega) h a ha
    refine ⟨a.toNat, ?_, by omega⟩
    rw [List.mem_filter, List.mem_range, h2 a.toNat (by omega)]
    refine ⟨by omega, ?_⟩
    rw [show ((a.toNat : Nat) : Int) = a from by omega]
    simpa using ha
end Go.Proofs.YtpaojgfmffkodaaGreat
/- Layer 54 (plain): the least change is not greater than any other. -/
namespace Go.Proofs.YtpaojgfmffkodaaGreat
set_option linter.unusedVariables false
set_option linter.unusedSimpArgs false
open Go.RowKit Go.Sort

def LeR (a b : ResR) : Prop := a.left.length < b.left.length ∨ (a.left.length = b.left.length ∧ a.moved.length ≤ b.moved.length)
theorem LeR.refl (a : ResR) : LeR a a := .inr ⟨rfl, Nat.le_refl _⟩
theorem LeR.trans {a b c : ResR} (h : LeR a b) (k : LeR b c) : LeR a c := by unfold LeR at *; omega
theorem better_le {L : List JobR} {a b : ResR} (h : betterB L a b = true) : LeR a b := by
  unfold betterB at h
  unfold LeR
  split at h
  · simp at h; omega
  · split at h
    · simp at h; omega
    · omega
theorem not_better_le {L : List JobR} {a b : ResR} (h : betterB L a b = false) : LeR b a := by
  unfold betterB at h
  unfold LeR
  split at h
  · simp at h; omega
  · split at h
    · simp at h; omega
    · omega
theorem leastStep_le (x : StP) (best : Option ResR) (k : Nat) : (∀ b, best = some b → ∃ r, leastStep x best k = some r ∧ LeR r b) ∧ ((keepV x (bitsL x.pd.length k)).1 = 0 → ∃ r, leastStep x best k = some r ∧ LeR r (keepV x (bitsL x.pd.length k)).2) := by
  unfold leastStep
  by_cases h : (keepV x (bitsL x.pd.length k)).1 = 0
  · rw [if_pos h]
    cases best with
    | none => exact ⟨(fun b hb => by cases hb), fun _ => ⟨_, rfl, LeR.refl _⟩⟩
    | some b =>
      simp only
      cases hb : betterB x.L (keepV x (bitsL x.pd.length k)).2 b
      · rw [if_neg (by simp)]
        exact ⟨(fun c hc => by injection hc with hc; subst hc; exact ⟨_, rfl, LeR.refl _⟩), fun _ => ⟨_, rfl, not_better_le hb⟩⟩
      · rw [if_pos rfl]
        exact ⟨(fun c hc => by injection hc with hc; subst hc; exact ⟨_, rfl, better_le hb⟩), fun _ => ⟨_, rfl, LeR.refl _⟩⟩
  · rw [if_neg h]
    exact ⟨fun b hb => ⟨b, hb, LeR.refl _⟩, fun e => absurd e h⟩
theorem leastTo_le (x : StP) : ∀ (k : Nat) (best : Option ResR), (∀ b, best = some b → ∃ r, leastTo x k best = some r ∧ LeR r b) ∧ (∀ s, s < k → (keepV x (bitsL x.pd.length s)).1 = 0 → ∃ r, leastTo x k best = some r ∧ LeR r (keepV x (bitsL x.pd.length s)).2)
  | 0, best => ⟨fun b hb => ⟨b, hb, LeR.refl _⟩, fun s hs => by omega⟩
  | k + 1, best => by
    obtain ⟨h1, h2⟩ := leastTo_le x k (leastStep x best k)
    obtain ⟨h3, h4⟩ := leastStep_le x best k
    refine ⟨fun b hb => ?_, fun s hs hk => ?_⟩
    · obtain ⟨r, hr, hl⟩ := h3 b hb
      obtain ⟨r2, hr2, hl2⟩ := h1 r hr
      exact ⟨r2, hr2, hl2.trans hl⟩
    · by_cases e : s = k
      · rw [e] at hk ⊢
        obtain ⟨r, hr, hl⟩ := h4 hk
        obtain ⟨r2, hr2, hl2⟩ := h1 r hr
        exact ⟨r2, hr2, hl2.trans hl⟩
      · exact h2 s (by omega) hk
/-- The least change is not greater than keeping any slots. -/
theorem least_le {x : StP} (hp : x.pd.length ≤ 8) {kept : List Int} (h : (keepV x kept).1 = 0) : (leastV x).1 = 0 ∧ LeR (leastV x).2 (keepV x kept).2 := by
  have hk : keptB x.pd.length (-1) kept = true := by
    unfold keepV at h
    by_cases hk : keptB x.pd.length (-1) kept = true
    · exact hk
    · rw [if_neg hk] at h; cases h
  obtain ⟨s, h1, rfl⟩ := kept_bits hk
  obtain ⟨r, hr, hl⟩ := (leastTo_le x (2 ^ x.pd.length) none).2 s h1 h
  unfold leastV
  rw [if_neg (by omega), hr]
  exact ⟨rfl, hl⟩
end Go.Proofs.YtpaojgfmffkodaaGreat
/- Layer 54 (plain): valid schedules, no events, local changes. -/
namespace Go.Proofs.YtpaojgfmffkodaaGreat
set_option linter.unusedVariables false
set_option linter.unusedSimpArgs false
open Go.RowKit Go.Sort

theorem countP_le_or {α : Type} (p q : α → Bool) : ∀ l : List α, l.countP (fun a => p a || q a) ≤ l.countP p + l.countP q
  | [] => by simp
  | a :: r => by
    have := countP_le_or p q r
    simp only [List.countP_cons]
    cases p a <;> cases q a <;> simp <;> omega
theorem countP_eq_le (x : Int) : ∀ n : Nat, (List.range n).countP (fun (o : Nat) => decide (x = (o : Int))) ≤ 1 ∧ ((n : Int) ≤ x → (List.range n).countP (fun (o : Nat) => decide (x = (o : Int))) = 0)
  | 0 => ⟨by simp, fun _ => by simp⟩
  | n + 1 => by
    obtain ⟨h1, h2⟩ := countP_eq_le x n
    rw [List.range_succ, List.countP_append, List.countP_singleton]
    refine ⟨?_, fun h => ?_⟩
    · by_cases e : x = (n : Int)
      · rw [h2 (by omega)]; simp [e]
      · simp [e]; exact h1
    · rw [h2 (by omega)]
      simp; omega
/-- Not more numbers are met than a list has. -/
theorem countP_mem_le (n : Nat) : ∀ l : List Int, (List.range n).countP (fun (o : Nat) => l.any fun y => decide (y = (o : Int))) ≤ l.length
  | [] => by simp
  | a :: r => by
    have h1 := countP_le_or (fun (o : Nat) => decide (a = (o : Int))) (fun (o : Nat) => r.any fun y => decide (y = (o : Int))) (List.range n)
    have h2 := (countP_eq_le a n).1
    have h3 := countP_mem_le n r
    simp only [List.any_cons, List.length_cons]
    omega
theorem openN_le_jobs {L : List JobR} {t : Int} {l : List SlotR} (h : ∀ y ∈ l, 0 ≤ y.job ∧ y.job < L.length) : openN L t l ≤ L.length := by
  unfold openN openTo
  have h1 := countP_mem_le 1001 (L.map (·.ord))
  rw [List.length_map] at h1
  have h2 : (List.range 1001).countP (fun o => begunB L t l o && unfinB L t l o) ≤ (List.range 1001).countP (fun (o : Nat) => (L.map (·.ord)).any fun y => decide (y = (o : Int))) := by
    refine List.countP_mono_left fun o ho hc => ?_
    rw [Bool.and_eq_true] at hc
    unfold begunB at hc
    rw [List.any_eq_true] at hc
    obtain ⟨⟨y, hy, e⟩, -⟩ := hc
    rw [Bool.and_eq_true, beq_iff_eq] at e
    rw [List.any_eq_true]
    refine ⟨ordAt L y, ?_, by rw [e.1]; simp⟩
    have := h y hy
    rw [List.mem_map]
    refine ⟨jobAt L y.job, ?_, rfl⟩
    exact jobAt_mem this.1 this.2
  omega
theorem openN_sub {L L' : List JobR} {t : Int} {l l' : List SlotR} (h : ∀ y ∈ l', y ∈ l) (ho : ∀ y ∈ l', ordAt L' y = ordAt L y) : openN L' t l' ≤ openN L t l := by
  unfold openN openTo
  have h2 : (List.range 1001).countP (fun o => begunB L' t l' o && unfinB L' t l' o) ≤ (List.range 1001).countP (fun o => begunB L t l o && unfinB L t l o) := by
    refine List.countP_mono_left fun o _ hc => ?_
    unfold begunB unfinB at hc ⊢
    rw [Bool.and_eq_true, List.any_eq_true, List.any_eq_true] at hc ⊢
    obtain ⟨⟨u, hu, hu2⟩, v, hv, hv2⟩ := hc
    rw [ho u hu] at hu2
    rw [ho v hv] at hv2
    exact ⟨⟨u, h u hu, hu2⟩, v, h v hv, hv2⟩
  omega
theorem GoodS.sub {s : ShopR} {L : List JobR} {l l' : List SlotR} (h : GoodS s L l) (hs : l'.Sublist l) : GoodS s L l' :=
  ⟨fun y hy => h.1 y (hs.subset hy), h.2.1.sublist hs, fun y hy => Int.le_trans (openN_sub (fun z hz => hs.subset hz) (fun _ _ => rfl)) (h.2.2 y (hs.subset hy))⟩
theorem GoodS.perm {s : ShopR} {L : List JobR} {l l' : List SlotR} (h : GoodS s L l) (hp : l'.Perm l) : GoodS s L l' :=
  ⟨fun y hy => h.1 y (hp.mem_iff.1 hy), (hp.pairwise_iff (fun h => sepB_symm h)).2 h.2.1, fun y hy => Int.le_trans (openN_sub (fun z hz => hp.mem_iff.1 hz) (fun _ _ => rfl)) (h.2.2 y (hp.mem_iff.1 hy))⟩
theorem step_cal {x : StP} {now : Int} {v : EvR} {m : Nat} (h : v.kind = 1 → v.mach ≠ (m : Int)) : calAt (stepV x now v).2.s m = calAt x.s m := by
  unfold stepV
  by_cases k1 : v.kind = 1
  · rw [if_pos k1]
    unfold shutV
    by_cases e1 : v.job = 0
    · rw [if_pos e1]
      by_cases e2 : v.mach < 0 ∨ (x.s.cals.length : Int) ≤ v.mach
      · rw [if_pos e2]
      · rw [if_neg e2]
        by_cases e3 : v.frm < now ∨ v.till < v.frm ∨ 1000000 < v.till
        · rw [if_pos e3]
        · rw [if_neg e3]
          cases hc : closeV (calAt x.s v.mach).P (calAt x.s v.mach).S (calAt x.s v.mach).D v.frm v.till with
          | none => rfl
          | some M =>
            show calAt (setCal x.s v.mach _) m = _
            rw [setCal_at _ _ _ (by omega) (by omega), if_neg (fun e => h k1 e.symm)]
    · rw [if_neg e1]
  · rw [if_neg k1]
    by_cases k2 : v.kind ≠ 2 ∧ v.kind ≠ 3
    · rw [if_pos k2]
    · rw [if_neg k2]
      by_cases k3 : aboutE x v ≠ 0
      · rw [if_pos k3]
      · rw [if_neg k3]
        by_cases k5 : v.kind = 3
        · rw [if_pos k5]
          unfold dropV
          split <;> rfl
        · rw [if_neg k5]
          unfold againV
          split
          · rfl
          · split <;> rfl
theorem run_cal {now : Int} {m : Nat} : ∀ (evs : List EvR) (x : StP), (∀ v ∈ evs, v.kind = 1 → v.mach ≠ (m : Int)) → calAt (runV now x evs).2.s m = calAt x.s m
  | [], x, _ => rfl
  | v :: r, x, h => by
    unfold runV
    have e := step_cal (x := x) (now := now) (h v (by simp))
    split
    · rw [run_cal r _ (fun u hu => h u (by simp [hu])), e]
    · exact e
section
variable {s : ShopR} {L : List JobR} {plan : List SlotR} {now : Int} {evs : List EvR} {x1 x : StP} {b : List SlotR}
/-- A slot of the plan on a machine that was not closed. -/
structure SameM (s : ShopR) (x : StP) (y : SlotR) : Prop where
  cal : calAt x.s y.mach = calAt (erS s) y.mach
theorem Applied.xs (h : Applied s L plan now evs x1 b x) : x.s = x1.s ∧ x.L = x1.L.mapIdx (laterJ x1.bg now) ∧ x.bg = b ∧ x.dr = x1.dr := by rw [h.x]; exact ⟨rfl, rfl, rfl, rfl⟩
theorem Applied.job (h : Applied s L plan now evs x1 b x) {y : SlotR} (hy : y ∈ plan) : y.job < x.L.length ∧ 0 ≤ y.job ∧ (jobAt x.L y.job).ms = (jobAt (erL L) y.job).ms ∧ (jobAt x.L y.job).dur = (jobAt (erL L) y.job).dur ∧ (jobAt x.L y.job).cls = (jobAt (erL L) y.job).cls ∧ (jobAt x.L y.job).ord = (jobAt (erL L) y.job).ord ∧ ¬ y.start < (jobAt x.L y.job).rel := by
  obtain ⟨e1, e2, e3, e4⟩ := h.xs
  have hp := good_stop h.good y hy
  have hl := h.inv.le
  have hl0 : (startV s L plan now).L.length = L.length := erL_length L
  obtain ⟨j, hj⟩ : ∃ j : Nat, y.job = j := ⟨y.job.toNat, by omega⟩
  have hjl : j < x1.L.length := by omega
  have hs := h.inv.same j (by omega)
  have hg : GoodS (startV s L plan now).s (startV s L plan now).L plan := goodS_er.2 h.good
  have hrel := (slot_parts.1 (hg.1 y hy)).2.2.1
  have hs2 : jobAt x1.L j = jobAt (erL L) j := hs
  rw [e2, hj, later_at _ _ hjl, hs2]
  refine ⟨by simpa using hjl, by omega, ?_⟩
  have hrel2 : ¬ y.start < (jobAt (erL L) y.job).rel := hrel
  rw [hj] at hrel2
  unfold laterJ
  cases hb : begunJ x1.bg j
  · rw [if_neg (by simp)]
    refine ⟨rfl, rfl, rfl, rfl, ?_⟩
    have hn : now ≤ y.start := by
      rcases Int.lt_or_le y.start now with h5 | h5
      · exfalso
        have : begunJ x1.bg y.job = true := by
          refine begunJ_mem ?_
          rw [h.inv.bg]
          exact List.mem_filter.2 ⟨hy, by simpa using h5⟩
        rw [hj, hb] at this
        cases this
      · exact h5
    show ¬ y.start < imax _ now
    unfold imax
    split <;> omega
  · rw [if_pos rfl]
    exact ⟨rfl, rfl, rfl, rfl, hrel2⟩
theorem Applied.slot (h : Applied s L plan now evs x1 b x) {y : SlotR} (hy : y ∈ plan) (hm : SameM s x y) : slotE x.s x.L [] y = 0 := by
  obtain ⟨e1, e2, e3, e4⟩ := h.xs
  obtain ⟨j1, j0, j2, j3, j4, j5, j6⟩ := h.job hy
  have hg : GoodS (startV s L plan now).s (startV s L plan now).L plan := goodS_er.2 h.good
  obtain ⟨p1, p2, p3, p4⟩ := slot_parts.1 (hg.1 y hy)
  have hn := nameB_iff.1 p1
  refine slot_parts.2 ⟨nameB_iff.2 ⟨⟨j0, j1⟩, hn.2.1, ?_⟩, ?_, j6, ?_⟩
  · rw [e1, h.inv.n]; exact hn.2.2
  · rw [j2]; exact p2
  · unfold shiftB openAt finishAt at p4 ⊢
    rw [hm.cal, j3]
    exact p4
theorem Applied.sep (h : Applied s L plan now evs x1 b x) {y z : SlotR} (hy : y ∈ plan) (hz : z ∈ plan) (hm : y.mach = z.mach → SameM s x y) (hs : sepB (erS s) (erL L) y z = true) : sepB x.s x.L y z = true := by
  obtain ⟨e1, e2, e3, e4⟩ := h.xs
  obtain ⟨-, -, -, -, j4, -, -⟩ := h.job hy
  obtain ⟨-, -, -, -, k4, -, -⟩ := h.job hz
  have hr : x.s.rows = (erS s).rows := by rw [e1]; exact h.inv.rows
  unfold sepB clashB at hs ⊢
  simp only [Bool.and_eq_true, Bool.not_eq_true', Bool.and_eq_false_iff, Bool.not_eq_false', beq_eq_false_iff_ne] at hs ⊢
  refine ⟨hs.1, ?_⟩
  by_cases e : z.mach = y.mach
  · refine .inr ?_
    have hc := (hm e.symm).cal
    have FO : followsB x.s x.L z y = followsB (erS s) (erL L) z y := by
      unfold followsB workAt setupAt
      rw [e, hc, hr, j4, k4]
    have FO2 : followsB x.s x.L y z = followsB (erS s) (erL L) y z := by
      unfold followsB workAt setupAt
      rw [hc, hr, j4, k4]
    rw [FO, FO2]
    rcases hs.2 with h3 | h3
    · exact absurd e h3
    · exact h3
  · exact .inl e
/-- A begun slot on a machine that was not closed keeps its end. -/
theorem Applied.begun (h : Applied s L plan now evs x1 b x) {z : SlotR} (hz : z ∈ b) : ∃ y ∈ plan, y.start < now ∧ z.job = y.job ∧ z.mach = y.mach ∧ z.start = y.start ∧ (SameM s x y → z = y) := by
  obtain ⟨e1, e2, e3, e4⟩ := h.xs
  obtain ⟨hb, -⟩ := ends_map h.ends
  rw [hb] at hz
  obtain ⟨y, hy, rfl⟩ := List.mem_map.1 hz
  have hge : GoodS (startV s L plan now).s (startV s L plan now).L plan := goodS_er.2 h.good
  have hy0 := hy
  rw [h.inv.bg] at hy0
  obtain ⟨h1, h2, ⟨j, hj, hjl, hjo⟩, ⟨m, hm, hml⟩, h5, h6⟩ := begun_slot h.inv hge rfl hy0
  refine ⟨y, h1, h2, rfl, rfl, rfl, fun hs => ?_⟩
  obtain ⟨yj, ym, ys, ye⟩ := y
  have h5' : finishAt (erS s) ym ys (jobAt (erL L) yj).dur = (ye, 0) := h5
  have hc : calAt x.s ym = calAt (erS s) ym := hs.cal
  have h7 : finishAt x1.s ym ys (jobAt (x1.L.mapIdx (laterJ x1.bg now)) yj).dur = (ye, 0) := by
    have hjo' : jobAt (x1.L.mapIdx (laterJ x1.bg now)) yj = jobAt (erL L) yj := by
      have : yj = (j : Int) := hj
      rw [this]; exact hjo
    rw [hjo', ← h5']
    rw [e1] at hc
    unfold finishAt
    rw [hc]
  unfold endOf
  simp only
  rw [h7]
theorem Applied.pend (h : Applied s L plan now evs x1 b x) {y : SlotR} : y ∈ x.pd ↔ y ∈ plan ∧ now ≤ y.start ∧ x.dr.getD y.job.toNat false = false := by
  obtain ⟨e1, e2, e3, e4⟩ := h.xs
  have hp : x.pd = sortS (x1.pd.filter fun y => !x1.dr.getD y.job.toNat false) := by rw [h.x]
  rw [hp, (sortS_perm _).mem_iff, List.mem_filter, e4, h.inv.pd]
  show (y ∈ plan.filter (fun x => !decide (x.start < now)) ∧ _) ↔ _
  rw [List.mem_filter]
  simp only [Bool.not_eq_true', decide_eq_false_iff_not, Int.not_lt, and_assoc]
end
/-- P54.4: what is moved was on a machine that was closed. -/
theorem local_law {s : ShopR} {L : List JobR} {plan : List SlotR} {now : Int} {evs : List EvR} {x1 x : StP} {b : List SlotR} (h : Applied s L plan now evs x1 b x) (hmost : (x.L.length : Int) ≤ x.s.most) : ∀ j ∈ (replanV x).2.moved, ∃ p ∈ plan, ∃ v ∈ evs, p.job = j ∧ v.kind = 1 ∧ v.mach = p.mach := by
  have ok := applied_ok h
  obtain ⟨e1, e2, e3, e4⟩ := h.xs
  have hk := (keep_ok ok (replan_ok ok)).2.moved
  intro j hj
  have hj2 : j ∈ movedL x (chosenTo x x.pd.length).2 := by
    have h0 : (replanV x).2.moved = sortI (movedL x (chosenTo x x.pd.length).2) := hk
    rw [h0] at hj
    exact (sortI_perm _).mem_iff.1 hj
  unfold movedL at hj2
  obtain ⟨i, hi, rfl⟩ := List.mem_map.1 hj2
  rw [List.mem_filter, List.mem_range] at hi
  obtain ⟨hi1, hi2⟩ := hi
  rw [getS_at hi1]
  have hyp : x.pd[i] ∈ x.pd := List.getElem_mem _
  obtain ⟨hy1, hy2, hy3⟩ := h.pend.1 hyp
  by_cases hcl : ∃ v ∈ evs, v.kind = 1 ∧ v.mach = x.pd[i].mach
  · obtain ⟨v, hv, h3, h4⟩ := hcl
    exact ⟨_, hy1, v, hv, rfl, h3, h4⟩
  exfalso
  have hge : GoodS (erS s) (erL L) plan := goodS_er.2 h.good
  have SM : ∀ z ∈ plan, z.mach = x.pd[i].mach → SameM s x z := by
    intro z hz hzm
    have hn := nameB_iff.1 (slot_parts.1 (hge.1 z hz)).1
    obtain ⟨m, hm⟩ : ∃ m : Nat, z.mach = m := ⟨z.mach.toNat, by omega⟩
    refine ⟨?_⟩
    rw [e1, hm, h.run]
    exact run_cal evs _ (fun v hv hk e => hcl ⟨v, hv, hk, by rw [e, ← hm, hzm]⟩)
  -- the slot fits behind what was chosen
  obtain ⟨c1, c2, c3⟩ := chosen_kept x i (by omega)
  have hch : (validT x.s x.L (chosenTo x i).1).2 = 0 := by
    have : ∀ n, (validT x.s x.L (chosenTo x n).1).2 = 0 := fun n => by
      induction n with
      | zero => exact validT_zero.2 ⟨ok.check, ok.good⟩
      | succ n ih =>
        unfold chosenTo
        split
        · rename_i h; exact h
        · exact ih
    exact this i
  obtain ⟨d1, d2⟩ := validT_zero.1 hch
  have hpw := hge.2.1
  have hany : ∀ u ∈ plan, ∀ v ∈ plan, u.job ≠ v.job → sepB (erS s) (erL L) u v = true := by
    intro u hu v hv hne
    obtain ⟨iu, hiu, rfl⟩ := List.getElem_of_mem hu
    obtain ⟨iv, hiv, rfl⟩ := List.getElem_of_mem hv
    rw [List.pairwise_iff_getElem] at hpw
    rcases Nat.lt_trichotomy iu iv with h3 | rfl | h3
    · exact sepB_symm (hpw iu iv hiu hiv h3)
    · exact absurd rfl hne
    · exact hpw iv iu hiv hiu h3
  have hnew : (validT x.s x.L ((chosenTo x i).1 ++ [x.pd[i]])).2 = 0 := by
    refine validT_zero.2 ⟨d1, ?_, ?_, ?_⟩
    · intro z hz
      rcases List.mem_append.1 hz with hz | hz
      · exact d2.1 z hz
      · rw [List.mem_singleton] at hz
        subst hz
        exact h.slot hy1 (SM _ hy1 rfl)
    · rw [List.pairwise_append]
      refine ⟨d2.2.1, by simp, fun z hz y hy => ?_⟩
      rw [List.mem_singleton] at hy
      subst hy
      -- z is begun or pending
      have hzs : z ∈ x.bg ++ x.pd.take i := by
        rw [c3] at hz
        rcases List.mem_append.1 hz with hz | hz
        · exact List.mem_append.2 (.inl hz)
        · unfold keptL at hz
          obtain ⟨k, hk, rfl⟩ := List.mem_map.1 hz
          have k1 := c2 k hk
          have k2 := keptB_mem (by omega) c1 k hk
          refine List.mem_append.2 (.inr ?_)
          rw [getS_at (show k.toNat < x.pd.length by omega), List.mem_take_iff_getElem]
          exact ⟨k.toNat, by omega, rfl⟩
      have hjne : z.job ≠ x.pd[i].job := by
        have hnd := ok.jobs
        rw [List.map_append] at hnd
        have hnd2 : ((x.bg ++ x.pd.take i).map (·.job) ++ (x.pd.drop i).map (·.job)).Nodup := by
          rw [← List.map_append, List.append_assoc, List.take_append_drop, List.map_append]; exact hnd
        rw [List.nodup_append] at hnd2
        refine hnd2.2.2 _ (List.mem_map.2 ⟨z, hzs, rfl⟩) _ (List.mem_map.2 ⟨_, ?_, rfl⟩)
        rw [List.mem_drop_iff_getElem]
        exact ⟨0, by omega, rfl⟩
      rcases List.mem_append.1 hzs with hzb | hzp
      · rw [e3] at hzb
        obtain ⟨y', hy', hst, q1, q2, q3, q4⟩ := h.begun hzb
        by_cases hmm : y'.mach = x.pd[i].mach
        · have := q4 (SM _ hy' hmm)
          rw [this]
          refine h.sep hy1 hy' (fun e => SM _ hy1 rfl) (hany _ hy1 _ hy' ?_)
          rw [← q1]; exact fun e => hjne e.symm
        · unfold sepB clashB
          rw [show (z.mach == x.pd[i].mach) = false from by rw [beq_eq_false_iff_ne, q2]; exact hmm, show (z.job == x.pd[i].job) = false from by rw [beq_eq_false_iff_ne]; exact hjne]
          rfl
      · obtain ⟨hz1, hz2, hz3⟩ := h.pend.1 (List.mem_of_mem_take hzp)
        exact h.sep hy1 hz1 (fun e => SM _ hy1 rfl) (hany _ hy1 _ hz1 (fun e => hjne e.symm))
    · intro z hz
      refine Int.le_trans (openN_le_jobs fun u hu => ?_) hmost
      rcases List.mem_append.1 hu with hu | hu
      · exact (good_stop d2 u hu).1
      · rw [List.mem_singleton] at hu
        subst hu
        exact ok.named _ (List.mem_append.2 (.inr hyp))
  have hin : (i : Int) ∈ (chosenTo x (i + 1)).2 := by
    show (i : Int) ∈ (if _ then _ else _ : List SlotR × List Int).2
    rw [getS_at hi1, if_pos hnew]
    simp
  have hmono : ∀ n, i + 1 ≤ n → (i : Int) ∈ (chosenTo x n).2 := by
    intro n hn
    induction n with
    | zero => omega
    | succ n ih =>
      by_cases e : i + 1 = n + 1
      · rw [← e]; exact hin
      · unfold chosenTo
        split
        · exact List.mem_append.2 (.inl (ih (by omega)))
        · exact ih (by omega)
  have := hmono x.pd.length (by omega)
  simp only [Bool.not_eq_true'] at hi2
  rw [List.contains_eq_mem] at hi2
  simp [this] at hi2
/-- Without events all slots stay. -/
theorem nothing_law {s : ShopR} {L : List JobR} {plan : List SlotR} {now : Int} {x1 x : StP} {b : List SlotR} (h : Applied s L plan now [] x1 b x) : (replanV x).2.moved = [] ∧ ∀ p ∈ plan, p ∈ (replanV x).2.slots := by
  have ok := applied_ok h
  obtain ⟨e1, e2, e3, e4⟩ := h.xs
  have hge : GoodS (erS s) (erL L) plan := goodS_er.2 h.good
  have hx1 : x1 = startV s L plan now := by rw [h.run]; rfl
  have SM : ∀ z, SameM s x z := fun z => ⟨by rw [e1, hx1]; rfl⟩
  have hdr : ∀ j, x.dr.getD j false = false := by
    intro j
    rw [e4, hx1]
    show (L.map fun _ => false).getD j false = false
    rw [List.getD_eq_getElem?_getD, List.getElem?_map]
    cases L[j]? <;> rfl
  have hbg : x.bg = plan.filter (fun y => decide (y.start < now)) := by
    rw [e3]
    obtain ⟨hb, -⟩ := ends_map h.ends
    have h1 : x1.bg = plan.filter (fun y => decide (y.start < now)) := h.inv.bg
    rw [hb, ← h1]
    have hid : ∀ y ∈ x1.bg, endOf x1.s (x1.L.mapIdx (laterJ x1.bg now)) y = y := by
      intro y hy
      have hge2 : GoodS (startV s L plan now).s (startV s L plan now).L plan := hge
      have hy0 := hy
      rw [h.inv.bg] at hy0
      obtain ⟨h1, h2, ⟨j, hj, hjl, hjo⟩, ⟨m, hm, hml⟩, h5, h6⟩ := begun_slot h.inv hge2 rfl hy0
      obtain ⟨yj, ym, ys, ye⟩ := y
      have hjo' : jobAt (x1.L.mapIdx (laterJ x1.bg now)) yj = jobAt (startV s L plan now).L yj := by
        have : yj = (j : Int) := hj
        rw [this]; exact hjo
      unfold endOf
      simp only
      rw [hjo', hx1]
      have h5' : finishAt (startV s L plan now).s ym ys (jobAt (startV s L plan now).L yj).dur = (ye, 0) := h5
      rw [h5']
    calc x1.bg.map (endOf x1.s (x1.L.mapIdx (laterJ x1.bg now))) = x1.bg.map id := List.map_congr_left hid
      _ = x1.bg := List.map_id _
  have hpdp : x.pd.Perm (plan.filter fun y => !decide (y.start < now)) := by
    have hp : x.pd = sortS (x1.pd.filter fun y => !x1.dr.getD y.job.toNat false) := by rw [h.x]
    rw [hp]
    refine (sortS_perm _).trans ?_
    have h2 : x1.pd = plan.filter fun y => !decide (y.start < now) := h.inv.pd
    rw [← e4, List.filter_eq_self.2 (fun y _ => by rw [hdr]; rfl), h2]
  have hall : (x.bg ++ x.pd).Perm plan := by
    rw [hbg]
    exact (hpdp.append_left _).trans (filter_split _ _)
  have hany : GoodS x.s x.L plan := by
    refine ⟨fun y hy => h.slot hy (SM y), ?_, fun y hy => ?_⟩
    · exact hge.2.1.imp_of_mem fun {a c} ha hc hs => h.sep hc ha (fun _ => SM _) hs
    · rw [e1, hx1]
      refine Int.le_trans (openN_sub (L := erL L) (fun z hz => hz) fun z hz => (h.job hz).2.2.2.2.2.1) (hge.2.2 y hy)
  have hgood : GoodS x.s x.L (x.bg ++ x.pd) := hany.perm hall
  have hch : ∀ n, n ≤ x.pd.length → chosenTo x n = (x.bg ++ x.pd.take n, (List.range n).map fun (i : Nat) => (i : Int)) := by
    intro n hn
    induction n with
    | zero => simp [chosenTo]
    | succ n ih =>
      have hn' : n < x.pd.length := by omega
      have hv : (validT x.s x.L ((chosenTo x n).1 ++ [x.pd.getD n noSlot])).2 = 0 := by
        rw [ih (by omega)]
        refine validT_zero.2 ⟨ok.check, hgood.sub ?_⟩
        show (x.bg ++ x.pd.take n ++ [x.pd.getD n noSlot]).Sublist _
        rw [List.append_assoc, getS_at hn', ← List.take_succ_eq_append_getElem hn']
        exact (List.Sublist.refl _).append (List.take_sublist _ _)
      unfold chosenTo
      rw [if_pos hv, ih (by omega)]
      simp only
      rw [List.append_assoc, getS_at hn', ← List.take_succ_eq_append_getElem hn', List.range_succ, List.map_append]
      rfl
  have hk : Kept now x (chosenTo x x.pd.length).2 (replanV x).2 := (keep_ok ok (replan_ok ok)).2
  have hch2 := hch _ (Nat.le_refl _)
  obtain ⟨-, -, c3⟩ := chosen_kept x x.pd.length (Nat.le_refl _)
  constructor
  · have h0 : (replanV x).2.moved = sortI (movedL x (chosenTo x x.pd.length).2) := hk.moved
    rw [h0, hch2]
    have : movedL x ((List.range x.pd.length).map fun (i : Nat) => (i : Int)) = [] := by
      unfold movedL
      rw [List.filter_eq_nil_iff.2]
      · rfl
      · intro i hi
        rw [List.mem_range] at hi
        simp only [Bool.not_eq_true', Bool.not_eq_false, List.contains_iff_mem]
        exact List.mem_map.2 ⟨i, List.mem_range.2 hi, rfl⟩
    rw [this]
    rfl
  · intro p hp
    obtain ⟨ext, h1, -⟩ := hk.slots
    rw [h1]
    refine List.mem_append.2 (.inl ?_)
    rw [← c3, hch2]
    show p ∈ x.bg ++ x.pd.take x.pd.length
    rw [List.take_length]
    exact hall.mem_iff.2 hp
/-- How often a number stands in a list, for the numbers below n. -/
def cntL (n : Nat) (l : List Int) : List Int := (List.range n).map fun (i : Nat) => ((l.count (i : Int) : Nat) : Int)
theorem nodup_count_le {l : List Int} (h : l.Nodup) (a : Int) : l.count a ≤ 1 := List.nodup_iff_count.1 h a
structure ValidL (now : Int) (plan : List SlotR) (x : StP) (r : ResR) : Prop where
  v : (validT x.s x.L r.slots).2 = 0
  old : ∀ y ∈ r.slots, y.start < now → ∃ p ∈ plan, p.job = y.job ∧ p.mach = y.mach ∧ p.start = y.start ∧ p.start < now
  named : ∀ y ∈ r.slots, 0 ≤ y.job ∧ y.job < x.L.length
  plan : ∀ p ∈ plan, (0 ≤ p.job ∧ p.job < x.L.length) ∧ (p.start < now → (r.slots.map (·.job)).count p.job = 1)
  left : ∀ j ∈ r.left, 0 ≤ j ∧ j < x.L.length
  dr : x.dr.length = x.L.length
  all : ∀ i : Nat, i < x.L.length → (r.slots.map (·.job) ++ r.left).count (i : Int) ≤ 1 ∧ x.dr.getD i false = decide ((r.slots.map (·.job) ++ r.left).count (i : Int) = 0)
theorem valid_law {s : ShopR} {L : List JobR} {plan : List SlotR} {now : Int} {evs : List EvR} {x1 x : StP} {b : List SlotR} (h : Applied s L plan now evs x1 b x) : ValidL now plan x (replanV x).2 := by
  have ok := applied_ok h
  obtain ⟨e1, e2, e3, e4⟩ := h.xs
  obtain ⟨hkb, hk⟩ := keep_ok ok (replan_ok ok)
  have hk' : Kept now x (chosenTo x x.pd.length).2 (replanV x).2 := hk
  obtain ⟨ext, s1, s2⟩ := hk'.slots
  have hmem := keptL_mem hkb
  refine ⟨validT_zero.2 ⟨ok.check, hk'.good⟩, fun y hy hlt => ?_, fun y hy => (good_stop hk'.good y hy).1, fun p hp => ?_, fun j hj => ?_, ok.dr, fun i hi => ⟨nodup_count_le hk'.once _, ?_⟩⟩
  · rw [s1] at hy
    rcases List.mem_append.1 hy with hy | hy
    · rcases List.mem_append.1 hy with hy | hy
      · rw [e3] at hy
        obtain ⟨y', q1, q2, q3, q4, q5, -⟩ := h.begun hy
        exact ⟨y', q1, q3.symm, q4.symm, q5.symm, q2⟩
      · have := ok.pd y (hmem y hy)
        omega
    · have := s2 y hy
      omega
  · have hj := h.job hp
    refine ⟨⟨hj.2.1, hj.1⟩, fun hlt => ?_⟩
    have hnd : (((replanV x).2.slots).map (·.job)).Nodup := (List.nodup_append.1 hk'.once).1
    have hin : p.job ∈ ((replanV x).2.slots).map (·.job) := by
      rw [s1, List.map_append, List.map_append]
      refine List.mem_append.2 (.inl (List.mem_append.2 (.inl ?_)))
      rw [e3]
      obtain ⟨hb, -⟩ := ends_map h.ends
      rw [hb, List.map_map]
      refine List.mem_map.2 ⟨p, ?_, rfl⟩
      rw [h.inv.bg]
      exact List.mem_filter.2 ⟨hp, by simpa using hlt⟩
    have h1 := nodup_count_le hnd p.job
    have h2 := List.count_pos_iff.2 hin
    omega
  · obtain ⟨i, rfl, h1, -⟩ := (hk'.all j).1 (List.mem_append.2 (.inr hj))
    omega
  · have hiff := hk'.all (i : Int)
    cases hd : x.dr.getD i false
    · have : (i : Int) ∈ ((replanV x).2.slots).map (·.job) ++ (replanV x).2.left := hiff.2 ⟨i, rfl, hi, hd⟩
      have := List.count_pos_iff.2 this
      rw [eq_comm, decide_eq_false_iff_not]
      omega
    · rw [eq_comm, decide_eq_true_eq, List.count_eq_zero]
      intro hm
      obtain ⟨k, e, -, hk2⟩ := hiff.1 hm
      have : k = i := by omega
      subst this
      rw [hd] at hk2
      cases hk2
end Go.Proofs.YtpaojgfmffkodaaGreat
