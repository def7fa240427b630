/- Layer 52 (the reference, plain): candidates and first fits, open orders, which schedules are valid. -/
import Derived.Test.YtdcncalcncomoaaSch30
import Derived.Test.YtdcncalcncomoaaSch35
namespace Go.Proofs.Ytdcncalcncomoaa
open Go.RowKit
set_option linter.unusedVariables false

theorem errI_zero {v c : Bool} (h : errI v c = 0) : (v && c) = true := by
  revert h
  unfold errI
  cases v <;> cases c <;> simp
theorem found_least {a : Int} {p : Nat → Bool} {n i : Nat} (hi : i < n) (hp : p i = true) : (foundV a p n).2 = 0 ∧ (foundV a p n).1 ≤ a + i := by
  obtain ⟨k1, k2, k3⟩ := least_spec p n
  have hl : least p n ≤ i := by
    rcases Nat.lt_or_ge i (least p n) with h | h
    · rw [k2 i h] at hp; cases hp
    · exact h
  unfold foundV
  rw [if_pos (by omega)]
  exact ⟨rfl, by simp only; omega⟩
theorem found_some {a : Int} {p : Nat → Bool} {n : Nat} (h : (foundV a p n).2 = 0) : ∃ i, i < n ∧ p i = true ∧ (foundV a p n).1 = a + i := by
  obtain ⟨k1, k2, k3⟩ := least_spec p n
  unfold foundV at *
  by_cases hl : least p n < n
  · rw [if_pos hl]
    exact ⟨_, hl, k3 hl, rfl⟩
  · rw [if_neg hl] at h; cases h
theorem next_ok {P : Int} {S D : List (Int × Int)} {t : Int} (h : (nextV P S D t).2 = 0) : (validB P S D && timeB t) = true ∧ nextV P S D t = foundV t (fun i => openI P S D (t + i)) (1000001 - t).toNat := by
  unfold nextV at *
  by_cases hc : (validB P S D && timeB t) = true
  · rw [if_pos hc]; exact ⟨hc, rfl⟩
  · rw [if_neg hc] at h
    exact absurd (errI_zero h) hc
theorem finish_ok {P : Int} {S D : List (Int × Int)} {t k : Int} (h : (finishV P S D t k).2 = 0) : (validB P S D && (timeB t && timeB k)) = true ∧ finishV P S D t k = foundV t (fun i => decide (k ≤ cnt (openI P S D) t i)) (1000001 - t).toNat := by
  unfold finishV at *
  by_cases hc : (validB P S D && (timeB t && timeB k)) = true
  · rw [if_pos hc]; exact ⟨hc, rfl⟩
  · rw [if_neg hc] at h
    exact absurd (errI_zero h) hc
theorem next_mono {P : Int} {S D : List (Int × Int)} {t u : Int} (h : (nextV P S D u).2 = 0) (h0 : 0 ≤ t) (htu : t ≤ u) : (nextV P S D t).2 = 0 ∧ t ≤ (nextV P S D t).1 ∧ (nextV P S D t).1 ≤ (nextV P S D u).1 := by
  obtain ⟨hc, e⟩ := next_ok h
  rw [e] at h
  obtain ⟨i, hi, hp, hv⟩ := found_some h
  rw [Bool.and_eq_true, timeB_iff] at hc
  have ht : (validB P S D && timeB t) = true := by rw [Bool.and_eq_true, timeB_iff]; exact ⟨hc.1, by omega, by omega⟩
  have e2 : nextV P S D t = foundV t (fun i => openI P S D (t + i)) (1000001 - t).toNat := by unfold nextV; rw [if_pos ht]
  have hpt : openI P S D (t + (((u - t).toNat + i : Nat) : Int)) = true := by
    rw [show t + (((u - t).toNat + i : Nat) : Int) = u + i by omega]
    exact hp
  have hfl := found_least (a := t) (p := fun i => openI P S D (t + i)) (n := (1000001 - t).toNat) (i := (u - t).toNat + i) (by omega) hpt
  rw [e2, e, hv]
  have := (found_le hfl.1).1
  exact ⟨hfl.1, this, by omega⟩
theorem finish_mono {P : Int} {S D : List (Int × Int)} {t u k : Int} (h : (finishV P S D u k).2 = 0) (h0 : 0 ≤ t) (htu : t ≤ u) : (finishV P S D t k).2 = 0 ∧ (finishV P S D t k).1 ≤ (finishV P S D u k).1 := by
  obtain ⟨hc, e⟩ := finish_ok h
  rw [e] at h
  obtain ⟨i, hi, hp, hv⟩ := found_some h
  rw [Bool.and_eq_true, Bool.and_eq_true, timeB_iff] at hc
  have ht : (validB P S D && (timeB t && timeB k)) = true := by rw [Bool.and_eq_true, Bool.and_eq_true, timeB_iff]; exact ⟨hc.1, ⟨by omega, by omega⟩, hc.2.2⟩
  have e2 : finishV P S D t k = foundV t (fun i => decide (k ≤ cnt (openI P S D) t i)) (1000001 - t).toNat := by unfold finishV; rw [if_pos ht]
  have hpt : decide (k ≤ cnt (openI P S D) t ((u - t).toNat + i)) = true := by
    rw [decide_eq_true_eq] at hp ⊢
    rw [cnt_add, show t + ((u - t).toNat : Int) = u by omega]
    have := (cnt_bounds (openI P S D) t (u - t).toNat).1
    omega
  have hfl := found_least (a := t) (p := fun i => decide (k ≤ cnt (openI P S D) t i)) (n := (1000001 - t).toNat) (i := (u - t).toNat + i) (by omega) hpt
  rw [e2, e, hv]
  exact ⟨hfl.1, by omega⟩

/-- The slot of a job on a machine that begins at u. -/
def slotAt (s : ShopR) (L : List JobR) (jb m u : Int) : SlotR := ⟨jb, m, u, (finishAt s m u (jobAt L jb).dur).1⟩
def fitsB (s : ShopR) (L : List JobR) (l : List SlotR) (jb m u : Int) : Bool := (finishAt s m u (jobAt L jb).dur).2 == 0 && (validV s L (l ++ [slotAt s L jb m u])).2 == 0
def startsL (s : ShopR) (m : Int) : List Int → List Int
  | [] => []
  | t :: r => if (nextAt s m t).2 = 0 then (nextAt s m t).1 :: startsL s m r else startsL s m r
theorem mem_startsL {s : ShopR} {m u : Int} : ∀ {ts : List Int}, u ∈ startsL s m ts ↔ ∃ t ∈ ts, (nextAt s m t).2 = 0 ∧ u = (nextAt s m t).1
  | [] => by simp [startsL]
  | t :: r => by
    unfold startsL
    by_cases h : (nextAt s m t).2 = 0
    · rw [if_pos h, List.mem_cons, mem_startsL (ts := r)]
      constructor
      · rintro (rfl | ⟨t', h1, h2⟩)
        · exact ⟨t, by simp, h, rfl⟩
        · exact ⟨t', by simp [h1], h2⟩
      · rintro ⟨t', h1, h2, h3⟩
        rcases List.mem_cons.1 h1 with rfl | h1
        · exact .inl h3
        · exact .inr ⟨t', h1, h2, h3⟩
    · rw [if_neg h, mem_startsL (ts := r)]
      constructor
      · rintro ⟨t', h1, h2⟩; exact ⟨t', by simp [h1], h2⟩
      · rintro ⟨t', h1, h2, h3⟩
        rcases List.mem_cons.1 h1 with rfl | h1
        · exact absurd h2 h
        · exact ⟨t', h1, h2, h3⟩
theorem startsL_sorted {s : ShopR} {m : Int} : ∀ {ts : List Int}, ts.Pairwise (· ≤ ·) → (∀ t ∈ ts, 0 ≤ t) → (startsL s m ts).Pairwise (· ≤ ·)
  | [], _, _ => by simp [startsL]
  | t :: r, h, h0 => by
    obtain ⟨h1, h2⟩ := List.pairwise_cons.1 h
    have ih := startsL_sorted (s := s) (m := m) h2 fun t ht => h0 t (by simp [ht])
    unfold startsL
    by_cases hn : (nextAt s m t).2 = 0
    · rw [if_pos hn]
      refine List.pairwise_cons.2 ⟨fun u hu => ?_, ih⟩
      obtain ⟨t', ht', e1, rfl⟩ := mem_startsL.1 hu
      exact (next_mono e1 (h0 t (by simp)) (h1 t' ht')).2.2
    · rw [if_neg hn]; exact ih
theorem find_none {α : Type} {p : α → Bool} : ∀ {l : List α}, (∀ x ∈ l, p x = false) → l.find? p = none
  | [], _ => rfl
  | a :: r, h => by rw [List.find?_cons, h a (by simp)]; exact find_none fun x hx => h x (by simp [hx])
theorem firstFit_find {s : ShopR} {L : List JobR} {l : List SlotR} {jb m : Int} : ∀ {ts : List Int}, ts.Pairwise (· ≤ ·) → (∀ t ∈ ts, 0 ≤ t) → firstFit s L l jb m ts = ((startsL s m ts).find? (fitsB s L l jb m)).map (slotAt s L jb m)
  | [], _, _ => rfl
  | t :: r, h, h0 => by
    obtain ⟨h1, h2⟩ := List.pairwise_cons.1 h
    have ih := firstFit_find (s := s) (L := L) (l := l) (jb := jb) (m := m) h2 fun t ht => h0 t (by simp [ht])
    have ht0 := h0 t (by simp)
    unfold firstFit startsL
    by_cases hn : (nextAt s m t).2 = 0
    · rw [if_pos hn, if_pos hn, List.find?_cons]
      have hn0 : 0 ≤ (nextAt s m t).1 := by have h9 : t ≤ (nextAt s m t).1 := (next_mono hn ht0 (Int.le_refl t)).2.1; omega
      by_cases hf : (finishAt s m (nextAt s m t).1 (jobAt L jb).dur).2 = 0
      · rw [if_pos hf]
        by_cases hv : (validV s L (l ++ [⟨jb, m, (nextAt s m t).1, (finishAt s m (nextAt s m t).1 (jobAt L jb).dur).1⟩])).2 = 0
        · rw [if_pos hv, show fitsB s L l jb m (nextAt s m t).1 = true by unfold fitsB slotAt; rw [hf, hv]; rfl]
          rfl
        · rw [if_neg hv, show fitsB s L l jb m (nextAt s m t).1 = false by unfold fitsB slotAt; rw [hf]; simpa using hv]
          exact ih
      · rw [if_neg hf, show fitsB s L l jb m (nextAt s m t).1 = false by unfold fitsB; rw [show ((finishAt s m (nextAt s m t).1 (jobAt L jb).dur).2 == 0) = false by simpa using hf]; rfl]
        simp only
        rw [find_none]
        · rfl
        · intro u hu
          obtain ⟨t', ht', e1, rfl⟩ := mem_startsL.1 hu
          have hle := (next_mono e1 ht0 (h1 t' ht')).2.2
          unfold fitsB
          by_cases q : (finishAt s m (nextAt s m t').1 (jobAt L jb).dur).2 = 0
          · exact absurd (finish_mono q hn0 hle).1 hf
          · rw [show ((finishAt s m (nextAt s m t').1 (jobAt L jb).dur).2 == 0) = false by simpa using q]; rfl
    · rw [if_neg hn, if_neg hn]
      have : startsL s m r = [] := by
        cases q : startsL s m r with
        | nil => rfl
        | cons u r' =>
          obtain ⟨t', ht', e1, -⟩ := mem_startsL.1 (show u ∈ startsL s m r by rw [q]; simp)
          exact absurd (next_mono e1 ht0 (h1 t' ht')).1 hn
      rw [this]
      rfl
/-- A number that is added to an ascending list, once. -/
def insU (t : Int) : List Int → List Int
  | [] => [t]
  | y :: r => if y < t then y :: insU t r else if y = t then y :: r else t :: y :: r
theorem mem_insU {t u : Int} : ∀ {l : List Int}, u ∈ insU t l ↔ u = t ∨ u ∈ l
  | [] => by simp [insU]
  | y :: r => by
    unfold insU
    split
    · rw [List.mem_cons, mem_insU (l := r), List.mem_cons]
      constructor
      · rintro (h | h | h)
        · exact .inr (.inl h)
        · exact .inl h
        · exact .inr (.inr h)
      · rintro (h | h | h)
        · exact .inr (.inl h)
        · exact .inl h
        · exact .inr (.inr h)
    · split
      · rename_i h
        constructor
        · exact .inr
        · rintro (rfl | q)
          · rw [← h]; simp
          · exact q
      · simp
theorem insU_sorted {t : Int} : ∀ {l : List Int}, l.Pairwise (· < ·) → (insU t l).Pairwise (· < ·)
  | [], _ => by simp [insU]
  | y :: r, h => by
    obtain ⟨h1, h2⟩ := List.pairwise_cons.1 h
    unfold insU
    split
    · refine List.pairwise_cons.2 ⟨fun u hu => ?_, insU_sorted h2⟩
      rcases mem_insU.1 hu with rfl | hu
      · assumption
      · exact h1 u hu
    · split
      · exact h
      · refine List.pairwise_cons.2 ⟨fun u hu => ?_, h⟩
        rcases List.mem_cons.1 hu with rfl | hu
        · omega
        · have := h1 u hu; omega
def candStep (s : ShopR) (m : Int) (out : List Int) (t : Int) : List Int := if (nextAt s m t).2 = 0 then insU (nextAt s m t).1 out else out
def candL (s : ShopR) (m : Int) (ts : List Int) : List Int := ts.foldl (candStep s m) []
theorem candF_spec {s : ShopR} {m : Int} : ∀ {ts out : List Int}, out.Pairwise (· < ·) → (ts.foldl (candStep s m) out).Pairwise (· < ·) ∧ ∀ u, u ∈ ts.foldl (candStep s m) out ↔ u ∈ out ∨ u ∈ startsL s m ts
  | [], out, h => ⟨h, fun u => by simp [startsL]⟩
  | t :: r, out, h => by
    rw [List.foldl_cons]
    unfold startsL
    by_cases hn : (nextAt s m t).2 = 0
    · have hs : candStep s m out t = insU (nextAt s m t).1 out := by unfold candStep; rw [if_pos hn]
      obtain ⟨a, b⟩ := candF_spec (s := s) (m := m) (ts := r) (out := candStep s m out t) (by rw [hs]; exact insU_sorted h)
      refine ⟨a, fun u => ?_⟩
      rw [b u, hs, mem_insU, if_pos hn, List.mem_cons]
      constructor
      · rintro ((h | h) | h)
        · exact .inr (.inl h)
        · exact .inl h
        · exact .inr (.inr h)
      · rintro (h | h | h)
        · exact .inl (.inr h)
        · exact .inl (.inl h)
        · exact .inr h
    · have hs : candStep s m out t = out := by unfold candStep; rw [if_neg hn]
      rw [hs, if_neg hn]
      exact candF_spec h
theorem candL_sorted (s : ShopR) (m : Int) (ts : List Int) : (candL s m ts).Pairwise (· < ·) := (candF_spec (by simp)).1
theorem mem_candL {s : ShopR} {m u : Int} {ts : List Int} : u ∈ candL s m ts ↔ u ∈ startsL s m ts := by
  have := (candF_spec (s := s) (m := m) (ts := ts) (out := []) (by simp)).2 u
  unfold candL
  rw [this]
  simp
theorem find_least {p : Int → Bool} : ∀ {l : List Int}, l.Pairwise (· ≤ ·) → ∀ {u}, l.find? p = some u ↔ (u ∈ l ∧ p u = true ∧ ∀ v ∈ l, p v = true → u ≤ v)
  | [], _, u => by simp
  | a :: r, h, u => by
    obtain ⟨h1, h2⟩ := List.pairwise_cons.1 h
    rw [List.find?_cons]
    cases hp : p a
    · simp only
      rw [find_least h2]
      constructor
      · rintro ⟨q1, q2, q3⟩
        exact ⟨by simp [q1], q2, fun v hv hpv => by
          rcases List.mem_cons.1 hv with rfl | hv
          · rw [hp] at hpv; cases hpv
          · exact q3 v hv hpv⟩
      · rintro ⟨q1, q2, q3⟩
        rcases List.mem_cons.1 q1 with rfl | q1
        · rw [hp] at q2; cases q2
        · exact ⟨q1, q2, fun v hv hpv => q3 v (by simp [hv]) hpv⟩
    · simp only [Option.some.injEq]
      constructor
      · rintro rfl
        exact ⟨by simp, hp, fun v hv hpv => by
          rcases List.mem_cons.1 hv with rfl | hv
          · exact Int.le_refl _
          · exact h1 v hv⟩
      · rintro ⟨q1, q2, q3⟩
        rcases List.mem_cons.1 q1 with rfl | q1
        · rfl
        · have := h1 u q1
          have := q3 a (by simp) hp
          omega
theorem find_same {p : Int → Bool} {l m : List Int} (hl : l.Pairwise (· ≤ ·)) (hm : m.Pairwise (· ≤ ·)) (h : ∀ u, u ∈ l ↔ u ∈ m) : l.find? p = m.find? p := by
  cases q : m.find? p with
  | none =>
    refine find_none fun x hx => ?_
    have := List.find?_eq_none.1 q x ((h x).1 hx)
    simpa using this
  | some u =>
    obtain ⟨a, b, c⟩ := (find_least hm).1 q
    exact (find_least hl).2 ⟨(h u).2 a, b, fun v hv hp => c v ((h v).1 hv) hp⟩
theorem firstFit_cand {s : ShopR} {L : List JobR} {l : List SlotR} {jb m : Int} {ts : List Int} (h0 : ∀ t ∈ ts, 0 ≤ t) : firstFit s L l jb m (sortI ts) = ((candL s m ts).find? (fitsB s L l jb m)).map (slotAt s L jb m) := by
  have hm : ∀ t, t ∈ sortI ts ↔ t ∈ ts := fun t => (sortI_perm ts).mem_iff
  have h1 : ∀ t ∈ sortI ts, 0 ≤ t := fun t ht => h0 t ((hm t).1 ht)
  rw [firstFit_find (sortI_sorted ts) h1]
  congr 1
  refine find_same (startsL_sorted (sortI_sorted ts) h1) ((candL_sorted s m ts).imp (fun h => Int.le_of_lt h)) fun u => ?_
  rw [mem_candL, mem_startsL, mem_startsL]
  constructor
  · rintro ⟨t, ht, q⟩; exact ⟨t, (hm t).1 ht, q⟩
  · rintro ⟨t, ht, q⟩; exact ⟨t, (hm t).2 ht, q⟩
def timesL (s : ShopR) (L : List JobR) (l : List SlotR) (jb m : Int) : Option (List Int) := (beginV s L jb m (jobAt L jb).rel l).map fun b => b :: endsOf b l
def candV (s : ShopR) (L : List JobR) (l : List SlotR) (jb m : Int) : List Int := match beginV s L jb m (jobAt L jb).rel l with
  | none => []
  | some b => candL s m (b :: endsOf b l)
theorem begin_ge {s : ShopR} {L : List JobR} {jb m : Int} : ∀ {l : List SlotR} {b0 b : Int}, beginV s L jb m b0 l = some b → b0 ≤ b
  | [], b0, b, h => by unfold beginV at h; injection h with h; omega
  | x :: r, b0, b, h => by
    unfold beginV at h
    split at h
    · split at h
      · have := begin_ge h
        rw [imax_eq] at this
        omega
      · cases h
    · exact begin_ge h
theorem onV_cand {s : ShopR} {L : List JobR} {l : List SlotR} {jb m : Int} (hr : 0 ≤ (jobAt L jb).rel) : onV s L l jb m = ((candV s L l jb m).find? (fitsB s L l jb m)).map (slotAt s L jb m) := by
  unfold onV candV
  cases hb : beginV s L jb m (jobAt L jb).rel l with
  | none => rfl
  | some b =>
    simp only
    have h1 := begin_ge hb
    refine firstFit_cand fun t ht => ?_
    rcases List.mem_cons.1 ht with rfl | ht
    · omega
    · unfold endsOf at ht
      obtain ⟨y, hy, rfl⟩ := List.mem_map.1 ht
      have := (List.mem_filter.1 hy).2
      simp at this
      omega
theorem candV_sorted (s : ShopR) (L : List JobR) (l : List SlotR) (jb m : Int) : (candV s L l jb m).Pairwise (· ≤ ·) := by
  unfold candV
  split
  · simp
  · exact (candL_sorted _ _ _).imp (fun h => Int.le_of_lt h)
theorem candV_nonneg {s : ShopR} {L : List JobR} {l : List SlotR} {jb m : Int} (hr : 0 ≤ (jobAt L jb).rel) : ∀ u ∈ candV s L l jb m, 0 ≤ u := by
  unfold candV
  cases hb : beginV s L jb m (jobAt L jb).rel l with
  | none => intro u hu; cases hu
  | some b =>
    intro u hu
    have h1 := begin_ge hb
    obtain ⟨t, ht, e1, rfl⟩ := mem_startsL.1 (mem_candL.1 hu)
    have h0 : 0 ≤ t := by
      rcases List.mem_cons.1 ht with rfl | ht
      · omega
      · unfold endsOf at ht
        obtain ⟨y, hy, rfl⟩ := List.mem_map.1 ht
        have := (List.mem_filter.1 hy).2
        simp at this
        omega
    have h9 : t ≤ (nextAt s m t).1 := (next_mono e1 h0 (Int.le_refl t)).2.1
    omega
theorem fold_better {s : ShopR} {L : List JobR} {l : List SlotR} {jb : Int} : ∀ (ms : List Int) (b : Option SlotR), (∀ x, b = some x → ∃ y, ms.foldl (fun best m => betterS best (onV s L l jb m)) b = some y ∧ y.stop ≤ x.stop) ∧ ∀ m ∈ ms, ∀ x, onV s L l jb m = some x → ∃ y, ms.foldl (fun best m => betterS best (onV s L l jb m)) b = some y ∧ y.stop ≤ x.stop
  | [], b => ⟨fun x hx => ⟨x, hx, Int.le_refl _⟩, fun m hm => by cases hm⟩
  | m :: ms, b => by
    obtain ⟨a1, a2⟩ := fold_better (s := s) (L := L) (l := l) (jb := jb) ms (betterS b (onV s L l jb m))
    rw [List.foldl_cons]
    refine ⟨fun x hx => ?_, fun m' hm' x hx => ?_⟩
    · subst hx
      cases ho : onV s L l jb m with
      | none => rw [ho] at a1; exact a1 x rfl
      | some z =>
        rw [ho] at a1
        by_cases q : z.stop < x.stop
        · obtain ⟨y, h1, h2⟩ := a1 z (by simp [betterS, q])
          exact ⟨y, h1, by omega⟩
        · exact a1 x (by simp [betterS, q])
    · rcases List.mem_cons.1 hm' with rfl | hm'
      · rw [hx] at a1 ⊢
        cases b with
        | none => exact a1 x rfl
        | some z =>
          by_cases q : x.stop < z.stop
          · exact a1 x (by simp [betterS, q])
          · obtain ⟨y, h1, h2⟩ := a1 z (by simp [betterS, q])
            exact ⟨y, h1, by omega⟩
      · exact a2 m' hm' x hx
/-- No candidate that fits ends ahead of the slot that dispatching finds. -/
theorem dispatch_best {s : ShopR} {L : List JobR} {l : List SlotR} {jb m u : Int} (hr : 0 ≤ (jobAt L jb).rel) (hm : m ∈ (jobAt L jb).ms) (hu : u ∈ candV s L l jb m) (hf : fitsB s L l jb m u = true) : ∃ x, dispatchV s L l jb = some x ∧ x.stop ≤ (finishAt s m u (jobAt L jb).dur).1 := by
  obtain ⟨v, hv⟩ : ∃ v, (candV s L l jb m).find? (fitsB s L l jb m) = some v := by
    cases q : (candV s L l jb m).find? (fitsB s L l jb m) with
    | none => exact absurd hf (List.find?_eq_none.1 q u hu)
    | some v => exact ⟨v, rfl⟩
  obtain ⟨q1, q2, q3⟩ := (find_least (candV_sorted s L l jb m)).1 hv
  have ho : onV s L l jb m = some (slotAt s L jb m v) := by rw [onV_cand hr, hv]; rfl
  obtain ⟨y, h1, h2⟩ := (fold_better (s := s) (L := L) (l := l) (jb := jb) _ none).2 m hm _ ho
  refine ⟨y, h1, Int.le_trans h2 ?_⟩
  unfold fitsB at hf
  rw [Bool.and_eq_true, beq_iff_eq] at hf
  exact (finish_mono hf.1 (candV_nonneg hr v q1) (q3 u hu (by unfold fitsB; rw [Bool.and_eq_true, beq_iff_eq]; exact hf))).2
theorem fold_from {s : ShopR} {L : List JobR} {l : List SlotR} {jb : Int} (Q : SlotR → Prop) (hq : ∀ m x, onV s L l jb m = some x → Q x) : ∀ (ms : List Int) (b : Option SlotR), (∀ x, b = some x → Q x) → ∀ x, ms.foldl (fun best m => betterS best (onV s L l jb m)) b = some x → Q x
  | [], b, hb, x, hx => hb x hx
  | m :: ms, b, hb, x, hx => by
    rw [List.foldl_cons] at hx
    refine fold_from Q hq ms _ (fun y hy => ?_) x hx
    unfold betterS at hy
    cases ho : onV s L l jb m with
    | none => rw [ho] at hy; exact hb y hy
    | some z =>
      rw [ho] at hy
      cases b with
      | none => simp at hy; rw [← hy]; exact hq m z ho
      | some c =>
        simp only at hy
        split at hy
        · injection hy with hy; rw [← hy]; exact hq m z ho
        · exact hb y hy
theorem dispatch_valid {s : ShopR} {L : List JobR} {l : List SlotR} {jb : Int} (hr : 0 ≤ (jobAt L jb).rel) {x : SlotR} (h : dispatchV s L l jb = some x) : (validV s L (l ++ [x])).2 = 0 := by
  refine fold_from (fun x => (validV s L (l ++ [x])).2 = 0) (fun m x hx => ?_) _ none (fun x hx => by cases hx) x h
  rw [onV_cand hr] at hx
  cases q : (candV s L l jb m).find? (fitsB s L l jb m) with
  | none => rw [q] at hx; cases hx
  | some u =>
    rw [q] at hx
    simp only [Option.map_some, Option.some.injEq] at hx
    have := List.find?_some q
    unfold fitsB at this
    rw [Bool.and_eq_true, beq_iff_eq, beq_iff_eq] at this
    rw [← hx]
    exact this.2
end Go.Proofs.Ytdcncalcncomoaa
/- Layer 52 (the reference, plain): its slots, open orders and valid schedules are the program's. -/
namespace Go.Proofs.Ytdcncalcncomoaa
open Go.RowKit
set_option linter.unusedVariables false

/-- The reference's follows does not ask for the error. -/
def followsR (s : ShopR) (L : List JobR) (x y : SlotR) : Bool := !decide (y.start < x.stop) && decide (setupAt s L x.job y.job ≤ (workAt s x.mach x.stop y.start).1)
def clashR (s : ShopR) (L : List JobR) (x y : SlotR) : Bool := (y.mach == x.mach) && (!followsR s L x y && !followsR s L y x)
def slotR (s : ShopR) (L : List JobR) (ahead : List SlotR) (x : SlotR) : Int :=
  if nameB s L x = false then 6 else if ahead.any (fun y => y.job == x.job) = true then 7 else if (jobAt L x.job).ms.any (fun m => m == x.mach) = false then 25 else if x.start < (jobAt L x.job).rel then 22 else
  if shiftB s L x = false then 26 else if ahead.any (clashR s L x) = true then 27 else 0
def TimesOk (s : ShopR) (x : SlotR) : Prop := validB (calAt s x.mach).P (calAt s x.mach).S (calAt s x.mach).D = true ∧ 0 ≤ x.start ∧ x.start ≤ 1000000 ∧ 0 ≤ x.stop ∧ x.stop ≤ 1000000
theorem shift_times {s : ShopR} {L : List JobR} {x : SlotR} (h : shiftB s L x = true) : TimesOk s x := by
  unfold shiftB at h
  rw [Bool.and_eq_true, Bool.and_eq_true, beq_iff_eq, beq_iff_eq] at h
  obtain ⟨h1, h2, h3⟩ := h
  unfold openAt openV at h1
  rw [Bool.and_eq_true, Bool.and_eq_true] at h1
  obtain ⟨⟨v, t⟩, -⟩ := h1
  rw [timeB_iff] at t
  unfold finishAt at h2 h3
  obtain ⟨c, e⟩ := finish_ok h2
  rw [e] at h2 h3
  have := found_le h2
  exact ⟨v, t.1, t.2, by omega, by omega⟩
theorem good_times {s : ShopR} {L : List JobR} {x : SlotR} (h : slotE s L [] x = 0) : TimesOk s x := by
  refine shift_times (L := L) ?_
  cases q : shiftB s L x
  · unfold slotE at h
    rw [q] at h
    revert h
    cases nameB s L x <;> cases (jobAt L x.job).ms.any (fun m => x.mach == m) <;> by_cases hr : x.start < (jobAt L x.job).rel <;> simp [hr]
  · rfl
theorem followsR_eq {s : ShopR} {L : List JobR} {x y : SlotR} (hx : TimesOk s x) (hy : TimesOk s y) : followsR s L x y = followsB s L x y := by
  unfold followsR followsB
  by_cases h : y.start < x.stop
  · simp [h]
  · obtain ⟨v, -, -, a, -⟩ := hx
    obtain ⟨-, -, b, -, -⟩ := hy
    have hc : checkB x.stop y.start = true := by unfold checkB; simp; omega
    have : (workAt s x.mach x.stop y.start).2 = 0 := by unfold workAt workV; rw [v, hc]; rfl
    rw [this]
    simp
theorem clashR_eq {s : ShopR} {L : List JobR} {x y : SlotR} (hx : TimesOk s x) (hy : TimesOk s y) : clashR s L x y = clashB s L x y := by
  unfold clashR clashB
  rw [followsR_eq hx hy, followsR_eq hy hx, Bool.and_comm (!followsB s L x y)]
theorem any_congr {α : Type} {p q : α → Bool} : ∀ {l : List α}, (∀ x ∈ l, p x = q x) → l.any p = l.any q
  | [], _ => rfl
  | a :: r, h => by rw [List.any_cons, List.any_cons, h a (by simp), any_congr fun x hx => h x (by simp [hx])]
theorem slotR_eq {s : ShopR} {L : List JobR} {ahead : List SlotR} {x : SlotR} (ha : ∀ y ∈ ahead, slotE s L [] y = 0) : slotR s L ahead x = slotE s L ahead x := by
  unfold slotR slotE
  rw [any_congr (l := (jobAt L x.job).ms) (p := fun m => m == x.mach) (q := fun m => x.mach == m) fun m _ => Bool.beq_comm]
  cases q : shiftB s L x
  · rfl
  · rw [any_congr (l := ahead) (p := clashR s L x) (q := clashB s L x) fun y hy => clashR_eq (shift_times q) (good_times (ha y hy))]

def ordK (L : List JobR) (l : List SlotR) (k : Nat) : Int := ordAt L (l.getD k noSlot)
def firstN (L : List JobR) (l : List SlotR) (k i : Nat) : Bool := (List.range i).all fun a => !(ordK L l a == ordK L l k) || decide (k ≤ a)
def begunI (L : List JobR) (t : Int) (l : List SlotR) (o : Int) : Bool := l.any fun x => ordAt L x == o && decide (x.start ≤ t)
def runI (L : List JobR) (t : Int) (l : List SlotR) (o : Int) : Bool := l.any fun x => ordAt L x == o && decide (t < x.stop)
def stepR (L : List JobR) (t : Int) (l : List SlotR) (k : Nat) : Bool := firstN L l k l.length && (begunI L t l (ordK L l k) && runI L t l (ordK L l k))
def openTR (L : List JobR) (t : Int) (l : List SlotR) (n : Nat) : Int := ((List.range n).countP (stepR L t l) : Nat)
def openR (L : List JobR) (t : Int) (l : List SlotR) : Int := openTR L t l l.length
theorem openTR_zero (L : List JobR) (t : Int) (l : List SlotR) : openTR L t l 0 = 0 := rfl
theorem openTR_succ (L : List JobR) (t : Int) (l : List SlotR) (n : Nat) : openTR L t l (n + 1) = openTR L t l n + (if stepR L t l n = true then 1 else 0) := by
  unfold openTR; rw [List.range_succ, List.countP_append]
  simp only [List.countP_singleton]
  split <;> simp
theorem openTR_le (L : List JobR) (t : Int) (l : List SlotR) (n : Nat) : 0 ≤ openTR L t l n ∧ openTR L t l n ≤ n := by
  unfold openTR
  have := List.countP_le_length (p := stepR L t l) (l := List.range n)
  rw [List.length_range] at this
  omega
theorem firstN_iff {L : List JobR} {l : List SlotR} {k n : Nat} (hk : k ≤ n) : firstN L l k n = !(List.range k).any (fun a => ordK L l a == ordK L l k) := by
  rw [Bool.eq_iff_iff]
  unfold firstN
  simp only [List.all_eq_true, List.mem_range, Bool.or_eq_true, Bool.not_eq_true', decide_eq_true_eq, List.any_eq_false]
  constructor
  · intro h a ha
    rcases h a (by omega) with h | h
    · rw [h]; simp
    · omega
  · intro h a ha
    by_cases q : a < k
    · have := h a q
      left
      simpa using this
    · right; omega
theorem count_firsts {L : List JobR} {l : List SlotR} (f : Int → Bool) (h : ∀ k, k < l.length → 0 ≤ ordK L l k ∧ ordK L l k ≤ 1000) : ∀ n, n ≤ l.length →
    (List.range n).countP (fun k => firstN L l k l.length && f (ordK L l k)) = (List.range 1001).countP (fun o => (List.range n).any (fun a => ordK L l a == ((o : Nat) : Int)) && f o)
  | 0, _ => by simp
  | n + 1, hn => by
    rw [List.range_succ, List.countP_append, count_firsts f h n (by omega), List.countP_singleton]
    obtain ⟨h0, h1⟩ := h n (by omega)
    rw [firstN_iff (k := n) (n := l.length) (by omega)]
    generalize hA : (fun o : Int => (List.range n).any (fun a => ordK L l a == o)) = A
    have e1 : ∀ o : Int, (List.range n).any (fun a => ordK L l a == o) = A o := fun o => by rw [← hA]
    have e2 : ∀ o : Nat, (List.range n ++ [n]).any (fun a => ordK L l a == (o : Int)) = (A o || ordK L l n == (o : Int)) := fun o => by rw [List.any_append, e1]; simp
    simp only [e1, e2]
    obtain ⟨i, hi⟩ : ∃ i : Nat, ordK L l n = i := ⟨(ordK L l n).toNat, by omega⟩
    rw [hi]
    have hil : i < 1001 := by omega
    cases hf : f i
    · rw [Bool.and_false, if_neg (by simp), Nat.add_zero]
      refine List.countP_congr fun o ho => ?_
      by_cases q : i = o
      · subst q; rw [hf]; simp
      · rw [show ((i : Int) == (o : Int)) = false from by simp; omega, Bool.or_false]
    · rw [Bool.and_true]
      have e3 : (List.range 1001).countP (fun o : Nat => (A o || ((i : Int) == (o : Int))) && f o) = (List.range 1001).countP (fun o : Nat => (A o && f o) || ((i : Int) == (o : Int))) := by
        refine List.countP_congr fun o ho => ?_
        by_cases q : i = o
        · subst q; rw [hf]; simp
        · rw [show ((i : Int) == (o : Int)) = false from by simp; omega, Bool.or_false, Bool.or_false]
      rw [e3, cnt_set (fun o : Nat => A o && f o) i 1001, hf, Bool.and_true]
      cases A i <;> simp [hil]
theorem openR_eq {L : List JobR} {t : Int} {l : List SlotR} (h : ∀ x ∈ l, 0 ≤ ordAt L x ∧ ordAt L x ≤ 1000) : openR L t l = openN L t l := by
  have hk : ∀ k, k < l.length → 0 ≤ ordK L l k ∧ ordK L l k ≤ 1000 := fun k hk => by unfold ordK; rw [getS_at hk]; exact h _ (List.getElem_mem hk)
  have := count_firsts (L := L) (l := l) (fun o => begunI L t l o && runI L t l o) hk l.length (Nat.le_refl _)
  unfold openR openTR openN openTo
  have e : (List.range l.length).countP (stepR L t l) = (List.range l.length).countP (fun k => firstN L l k l.length && (begunI L t l (ordK L l k) && runI L t l (ordK L l k))) := rfl
  rw [e, this]
  refine congrArg (fun n : Nat => (n : Int)) (List.countP_congr fun o ho => ?_)
  have e1 : begunB L t l o = begunI L t l o := rfl
  have e2 : unfinB L t l o = runI L t l o := rfl
  rw [e1, e2]
  constructor
  · intro q; rw [Bool.and_eq_true] at q; exact q.2
  · intro q
    rw [Bool.and_eq_true]
    refine ⟨?_, q⟩
    rw [Bool.and_eq_true] at q
    have q1 := q.1
    unfold begunI at q1
    rw [List.any_eq_true] at q1
    obtain ⟨x, hx, hp⟩ := q1
    rw [Bool.and_eq_true] at hp
    obtain ⟨k, hk, rfl⟩ := List.getElem_of_mem hx
    rw [List.any_eq_true]
    exact ⟨k, by simpa using hk, by unfold ordK; rw [getS_at hk]; exact hp.1⟩

def fitR (s : ShopR) (L : List JobR) (l : List SlotR) (k : Nat) : Int := slotR s L (l.take k) (l.getD k noSlot)
def openRE (s : ShopR) (L : List JobR) (l : List SlotR) (k : Nat) : Int := if s.most < openR L (l.getD k noSlot).start l then 28 else 0
def validR (s : ShopR) (L : List JobR) (l : List SlotR) : Int × Int :=
  match firstBad (fitR s L l) (List.range l.length) with
  | some (i, e) => (i, e)
  | none => match firstBad (openRE s L l) (List.range l.length) with
    | some (i, e) => (i, e)
    | none => (l.length, 0)
theorem firstBad_same {f g : Nat → Int} {n : Nat} (h : ∀ k, k < n → (∀ j, j < k → g j = 0) → f k = g k) : ∀ m k, n - k = m → (∀ j, j < k → g j = 0) → firstBad f ((List.range n).drop k) = firstBad g ((List.range n).drop k)
  | 0, k, hm, h0 => by
    rw [List.drop_eq_nil_of_le (by simp; omega)]
    rfl
  | m + 1, k, hm, h0 => by
    have hk : k < n := by omega
    rw [firstBad_drop _ hk, firstBad_drop _ hk, h k hk h0]
    by_cases q : g k = 0
    · rw [if_pos q, if_pos q]
      refine firstBad_same h m (k + 1) (by omega) fun j hj => ?_
      by_cases e : j = k
      · rw [e]; exact q
      · exact h0 j (by omega)
    · rw [if_neg q, if_neg q]
theorem validR_eq {s : ShopR} {L : List JobR} {l : List SlotR} (hord : ∀ j ∈ L, 0 ≤ j.ord ∧ j.ord ≤ 1000) : validR s L l = validV s L l := by
  have e1 : firstBad (fitR s L l) (List.range l.length) = firstBad (fitE s L l) (List.range l.length) := by
    refine firstBad_same (n := l.length) (fun k hk h0 => ?_) l.length 0 rfl (fun j hj => by omega)
    unfold fitR fitE
    refine slotR_eq fun y hy => ?_
    rw [List.mem_take_iff_getElem] at hy
    obtain ⟨i, hi, rfl⟩ := hy
    have := h0 i (by omega)
    unfold fitE at this
    rw [getS_at (by omega)] at this
    exact (slotE_iff.1 this).1
  unfold validR validV
  rw [e1]
  cases q : firstBad (fitE s L l) (List.range l.length) with
  | some x => rfl
  | none =>
    have hz := (firstBad_iff _).1 q
    have hg : ∀ x ∈ l, 0 ≤ ordAt L x ∧ ordAt L x ≤ 1000 := by
      intro x hx
      obtain ⟨k, hk, rfl⟩ := List.getElem_of_mem hx
      have := hz k (by simpa using hk)
      unfold fitE at this
      rw [getS_at hk] at this
      obtain ⟨⟨a, b⟩, -⟩ := nameB_iff.1 (named_of this)
      unfold ordAt
      obtain ⟨m, hm⟩ : ∃ m : Nat, l[k].job = m := ⟨l[k].job.toNat, by omega⟩
      rw [hm, jobAt_at (by omega)]
      exact hord _ (List.getElem_mem _)
    have e2 : firstBad (openRE s L l) (List.range l.length) = firstBad (openE s L l) (List.range l.length) := by
      refine firstBad_congr fun k hk => ?_
      unfold openRE openE
      rw [openR_eq hg]
    simp only
    rw [e2]
    rfl
theorem any_orders {s : ShopR} {L : List JobR} (h : checkS s L = true) : ∀ j ∈ L, 0 ≤ j.ord ∧ j.ord ≤ 1000 := fun j hj => (job_parts (check_job h hj)).2.2.2.2.2.2
theorem validRT_eq (s : ShopR) (L : List JobR) (l : List SlotR) : (if refCheckB s L = true then validR s L l else (0, 1)) = validT s L l := by
  unfold validT
  rw [refCheck_eq]
  by_cases h : checkS s L = true
  · rw [if_pos h, if_pos h, validR_eq (any_orders h)]
  · rw [if_neg h, if_neg h]
end Go.Proofs.Ytdcncalcncomoaa
