/- Layer 52 (plain): a problem whose calendars are always open, moved by d. -/
import Derived.Test.YtdcncalcncomoaaSch27
import Derived.Test.YtdcncalcncomoaaSch32
namespace Go.Proofs.Ytdcncalcncomoaa
open Go.RowKit
set_option linter.unusedVariables false

def shJ (d : Int) (j : JobR) : JobR := ⟨j.A, j.c, j.ms, j.dur, j.cls, j.rel + d, j.due + d, j.ord⟩
def sh (d : Int) (x : SlotR) : SlotR := ⟨x.job, x.mach, x.start + d, x.stop + d⟩
/-- Machines that are always open, and modest numbers. -/
structure Alw (s : ShopR) (L : List JobR) : Prop where
  cals : ∀ x ∈ s.cals, x.P = 1 ∧ x.S = [(0, 1)] ∧ x.D = []
  dur : ∀ j ∈ L, 0 ≤ j.dur ∧ j.dur ≤ 10000
  rel : ∀ j ∈ L, 0 ≤ j.rel ∧ j.rel ≤ 20000
  mach : ∀ j ∈ L, ∀ m ∈ j.ms, 0 ≤ m ∧ m < s.cals.length
  setup : ∀ a b : Int, 0 ≤ a → a < L.length → 0 ≤ b → b < L.length → 0 ≤ setupAt s L a b ∧ setupAt s L a b ≤ 1000
def Bd (s : ShopR) (L : List JobR) (B : Int) (x : SlotR) : Prop := nameB s L x = true ∧ 0 ≤ x.start ∧ x.start ≤ x.stop ∧ x.stop ≤ B
theorem jobAt_mem {L : List JobR} {j : Int} (h0 : 0 ≤ j) (h1 : j < L.length) : jobAt L j ∈ L := by
  obtain ⟨i, rfl⟩ : ∃ i : Nat, j = i := ⟨j.toNat, by omega⟩
  rw [jobAt_at (show i < L.length by omega)]
  exact List.getElem_mem _
theorem jobAt_map {L : List JobR} {d j : Int} (h0 : 0 ≤ j) (h1 : j < L.length) : jobAt (L.map (shJ d)) j = shJ d (jobAt L j) := by
  obtain ⟨i, rfl⟩ : ∃ i : Nat, j = i := ⟨j.toNat, by omega⟩
  rw [jobAt_at (show i < L.length by omega), jobAt_at (show i < (L.map (shJ d)).length by rw [List.length_map]; omega), List.getElem_map]
theorem setupAt_map {s : ShopR} {L : List JobR} {d a b : Int} (ha : 0 ≤ a) (ha1 : a < L.length) (hb : 0 ≤ b) (hb1 : b < L.length) : setupAt s (L.map (shJ d)) a b = setupAt s L a b := by
  unfold setupAt; rw [jobAt_map ha ha1, jobAt_map hb hb1]; rfl
theorem nameB_map {s : ShopR} {L : List JobR} {d : Int} (x : SlotR) : nameB s (L.map (shJ d)) (sh d x) = nameB s L x := by
  unfold nameB sh; rw [List.length_map]
theorem imax_add (a b d : Int) : imax (a + d) (b + d) = imax a b + d := by rw [imax_eq, imax_eq]; omega
theorem insI_map (d x : Int) : ∀ l, insI (x + d) (l.map (· + d)) = (insI x l).map (· + d)
  | [] => rfl
  | y :: r => by
    rw [List.map_cons]
    unfold insI
    by_cases h : x ≤ y
    · rw [if_pos h, if_pos (by omega)]; rfl
    · rw [if_neg h, if_neg (by omega), insI_map d x r]; rfl
theorem sortI_map (d : Int) : ∀ l, sortI (l.map (· + d)) = (sortI l).map (· + d)
  | [] => rfl
  | x :: r => by
    rw [List.map_cons]
    show insI (x + d) (sortI (r.map (· + d))) = (insI x (sortI r)).map (· + d)
    rw [sortI_map d r, insI_map]
theorem firstBad_congr {f g : Nat → Int} : ∀ {l : List Nat}, (∀ k ∈ l, f k = g k) → firstBad f l = firstBad g l
  | [], _ => rfl
  | k :: l, h => by unfold firstBad; rw [h k (by simp), firstBad_congr fun j hj => h j (by simp [hj])]
section
variable {s : ShopR} {L : List JobR} {d B : Int}
theorem Alw.cal (h : Alw s L) {m : Int} (h0 : 0 ≤ m) (h1 : m < s.cals.length) : (calAt s m).P = 1 ∧ (calAt s m).S = [(0, 1)] ∧ (calAt s m).D = [] := by
  obtain ⟨i, rfl⟩ : ∃ i : Nat, m = i := ⟨m.toNat, by omega⟩
  rw [calAt_at (show i < s.cals.length by omega)]
  exact h.cals _ (List.getElem_mem _)
theorem Alw.finish (h : Alw s L) {m t k : Int} (h0 : 0 ≤ m) (h1 : m < s.cals.length) (ht : 0 ≤ t) (hk : 0 ≤ k) (hs : t + k ≤ 1000000) : finishAt s m t k = (t + k, 0) := by
  obtain ⟨e1, e2, e3⟩ := h.cal h0 h1
  unfold finishAt; rw [e1, e2, e3]
  exact finish_always (by omega) (by omega) ht hk hs
theorem Alw.next (h : Alw s L) {m t : Int} (h0 : 0 ≤ m) (h1 : m < s.cals.length) (ht : 0 ≤ t) (hs : t ≤ 1000000) : nextAt s m t = (t, 0) := by
  obtain ⟨e1, e2, e3⟩ := h.cal h0 h1
  unfold nextAt; rw [e1, e2, e3]
  exact next_always (by omega) (by omega) ht hs
theorem Alw.work (h : Alw s L) {m a b : Int} (h0 : 0 ≤ m) (h1 : m < s.cals.length) (ha : 0 ≤ a) (hab : a ≤ b) (hb : b ≤ 1000000) : workAt s m a b = (b - a, 0) := by
  obtain ⟨e1, e2, e3⟩ := h.cal h0 h1
  unfold workAt; rw [e1, e2, e3]
  exact work_always (by omega) (by omega) ha hab hb
theorem Alw.opened (h : Alw s L) {m t : Int} (h0 : 0 ≤ m) (h1 : m < s.cals.length) (ht : 0 ≤ t) (hs : t ≤ 1000000) : openAt s m t = true := by
  obtain ⟨e1, e2, e3⟩ := h.cal h0 h1
  unfold openAt; rw [e1, e2, e3]
  exact open_always (by omega) (by omega) ht hs
theorem follows_sh (h : Alw s L) (hd : 0 ≤ d ∧ d ≤ 5000) (hB : B ≤ 200000) {a b : SlotR} (ha : Bd s L B a) (hb : Bd s L B b) : followsB s (L.map (shJ d)) (sh d a) (sh d b) = followsB s L a b := by
  obtain ⟨na, a1, a2, a3⟩ := ha
  obtain ⟨nb, b1, b2, b3⟩ := hb
  have ja := nameB_iff.1 na
  have jb := nameB_iff.1 nb
  unfold followsB
  show (!decide (b.start + d < a.stop + d) && ((workAt s a.mach (a.stop + d) (b.start + d)).2 == 0 && decide (setupAt s (L.map (shJ d)) a.job b.job ≤ (workAt s a.mach (a.stop + d) (b.start + d)).1))) = _
  rw [setupAt_map ja.1.1 ja.1.2 jb.1.1 jb.1.2]
  by_cases hlt : b.start < a.stop
  · rw [show decide (b.start + d < a.stop + d) = true from decide_eq_true (by omega), show decide (b.start < a.stop) = true from decide_eq_true hlt]; rfl
  · rw [show decide (b.start + d < a.stop + d) = false from decide_eq_false (by omega), show decide (b.start < a.stop) = false from decide_eq_false hlt,
      h.work ja.2.1 ja.2.2 (by omega) (by omega) (by omega), h.work ja.2.1 ja.2.2 (by omega) (by omega) (by omega), show b.start + d - (a.stop + d) = b.start - a.stop by omega]
theorem clash_sh (h : Alw s L) (hd : 0 ≤ d ∧ d ≤ 5000) (hB : B ≤ 200000) {a b : SlotR} (ha : Bd s L B a) (hb : Bd s L B b) : clashB s (L.map (shJ d)) (sh d a) (sh d b) = clashB s L a b := by
  unfold clashB
  rw [follows_sh h hd hB ha hb, follows_sh h hd hB hb ha]; rfl
theorem any_map_eq {α β : Type} {f : α → β} {p : β → Bool} {q : α → Bool} {l : List α} (h : ∀ x ∈ l, p (f x) = q x) : (l.map f).any p = l.any q := by
  rw [List.any_map, Bool.eq_iff_iff, List.any_eq_true, List.any_eq_true]
  constructor
  · rintro ⟨x, hx, hp⟩; exact ⟨x, hx, by rw [← h x hx]; exact hp⟩
  · rintro ⟨x, hx, hp⟩; exact ⟨x, hx, by show p (f x) = true; rw [h x hx]; exact hp⟩
theorem slotE_sh (h : Alw s L) (hd : 0 ≤ d ∧ d ≤ 5000) (hB : B ≤ 200000) {l : List SlotR} (hl : ∀ x ∈ l, Bd s L B x) {x : SlotR} (hx : Bd s L B x) : slotE s (L.map (shJ d)) (l.map (sh d)) (sh d x) = slotE s L l x := by
  have jx := nameB_iff.1 hx.1
  have hdur := h.dur _ (jobAt_mem jx.1.1 jx.1.2)
  unfold slotE
  rw [nameB_map, any_map_eq (f := sh d) (l := l) (p := fun y : SlotR => y.job == (sh d x).job) (q := fun y : SlotR => y.job == x.job) (fun y _ => rfl), any_map_eq (p := clashB s (L.map (shJ d)) (sh d x)) (q := clashB s L x) (fun y hy => clash_sh h hd hB hx (hl y hy))]
  have e1 : jobAt (L.map (shJ d)) (sh d x).job = shJ d (jobAt L x.job) := jobAt_map jx.1.1 jx.1.2
  have e2 : shiftB s (L.map (shJ d)) (sh d x) = shiftB s L x := by
    unfold shiftB
    rw [e1]
    show (openAt s x.mach (x.start + d) && ((finishAt s x.mach (x.start + d) (jobAt L x.job).dur).2 == 0 && (finishAt s x.mach (x.start + d) (jobAt L x.job).dur).1 == x.stop + d)) = _
    obtain ⟨-, x1, x2, x3⟩ := hx
    rw [h.opened jx.2.1 jx.2.2 (by omega) (by omega), h.opened jx.2.1 jx.2.2 (by omega) (by omega), h.finish jx.2.1 jx.2.2 (by omega) hdur.1 (by omega), h.finish jx.2.1 jx.2.2 (by omega) hdur.1 (by omega)]
    simp only [Bool.true_and]
    congr 1
    rw [Bool.eq_iff_iff, beq_iff_eq, beq_iff_eq]
    omega
  have e3 : ((sh d x).start < (jobAt (L.map (shJ d)) (sh d x).job).rel) = (x.start < (jobAt L x.job).rel) := by
    rw [e1]
    show (x.start + d < (jobAt L x.job).rel + d) = _
    exact propext ⟨fun _ => by omega, fun _ => by omega⟩
  rw [e2, e1]
  simp only [show (shJ d (jobAt L x.job)).ms = (jobAt L x.job).ms from rfl, show (shJ d (jobAt L x.job)).rel = (jobAt L x.job).rel + d from rfl, show (sh d x).start = x.start + d from rfl, show (sh d x).mach = x.mach from rfl]
  congr 3
  by_cases hlt : x.start < (jobAt L x.job).rel
  · rw [if_pos hlt, if_pos (by omega)]
  · rw [if_neg hlt, if_neg (by omega)]
theorem openN_sh (h : Alw s L) {l : List SlotR} (hl : ∀ x ∈ l, Bd s L B x) (t : Int) : openN (L.map (shJ d)) (t + d) (l.map (sh d)) = openN L t l := by
  have eo : ∀ x ∈ l, ordAt (L.map (shJ d)) (sh d x) = ordAt L x := fun x hx => by
    have jx := nameB_iff.1 (hl x hx).1
    unfold ordAt
    rw [show (sh d x).job = x.job from rfl, jobAt_map jx.1.1 jx.1.2]; rfl
  unfold openN openTo
  congr 2
  funext o
  congr 1
  · unfold begunB
    refine any_map_eq fun x hx => ?_
    rw [eo x hx]
    congr 1
    exact decide_eq_decide.2 ⟨fun _ => by show x.start ≤ t; have : x.start + d ≤ t + d := by assumption
                                          omega, fun _ => by show x.start + d ≤ t + d; omega⟩
  · unfold unfinB
    refine any_map_eq fun x hx => ?_
    rw [eo x hx]
    congr 1
    exact decide_eq_decide.2 ⟨fun _ => by show t < x.stop; have : t + d < x.stop + d := by assumption
                                          omega, fun _ => by show t + d < x.stop + d; omega⟩
theorem valid_sh (h : Alw s L) (hd : 0 ≤ d ∧ d ≤ 5000) (hB : B ≤ 200000) {l : List SlotR} (hl : ∀ x ∈ l, Bd s L B x) : validV s (L.map (shJ d)) (l.map (sh d)) = validV s L l := by
  have gm : ∀ k, k < l.length → (l.map (sh d)).getD k noSlot = sh d (l.getD k noSlot) := fun k hk => by
    rw [getS_at (by rw [List.length_map]; exact hk), getS_at hk, List.getElem_map]
  have f1 : firstBad (fitE s (L.map (shJ d)) (l.map (sh d))) (List.range (l.map (sh d)).length) = firstBad (fitE s L l) (List.range l.length) := by
    rw [List.length_map]
    refine firstBad_congr fun k hk => ?_
    have hk' : k < l.length := by simpa using hk
    unfold fitE
    rw [gm k hk', ← List.map_take]
    refine slotE_sh h hd hB (fun x hx => hl x (List.mem_of_mem_take hx)) ?_
    rw [getS_at hk']
    exact hl _ (List.getElem_mem _)
  have f2 : firstBad (openE s (L.map (shJ d)) (l.map (sh d))) (List.range (l.map (sh d)).length) = firstBad (openE s L l) (List.range l.length) := by
    rw [List.length_map]
    refine firstBad_congr fun k hk => ?_
    have hk' : k < l.length := by simpa using hk
    unfold openE
    rw [gm k hk', show (sh d (l.getD k noSlot)).start = (l.getD k noSlot).start + d from rfl, openN_sh h hl]
  unfold validV
  rw [f1, f2, List.length_map]
theorem begin_sh (h : Alw s L) (hd : 0 ≤ d ∧ d ≤ 5000) (hB : B ≤ 200000) {jb m : Int} (hj : 0 ≤ jb ∧ jb < L.length) (hm : 0 ≤ m ∧ m < s.cals.length) : ∀ {l : List SlotR}, (∀ x ∈ l, Bd s L B x) → ∀ b, beginV s (L.map (shJ d)) jb m (b + d) (l.map (sh d)) = (beginV s L jb m b l).map (· + d)
  | [], _, b => rfl
  | x :: r, hl, b => by
    obtain ⟨nx, x1, x2, x3⟩ := hl x (by simp)
    have jx := nameB_iff.1 nx
    have hs := h.setup x.job jb jx.1.1 jx.1.2 hj.1 hj.2
    have ih := begin_sh h hd hB hj hm (l := r) (fun y hy => hl y (by simp [hy]))
    rw [List.map_cons]
    unfold beginV
    by_cases e : x.mach = m
    · rw [if_pos e, if_pos (show (sh d x).mach = m from e)]
      show (if (finishAt s m (x.stop + d) (setupAt s (L.map (shJ d)) x.job jb)).2 = 0 then beginV s (L.map (shJ d)) jb m (imax (b + d) (finishAt s m (x.stop + d) (setupAt s (L.map (shJ d)) x.job jb)).1) (r.map (sh d)) else none) = _
      rw [setupAt_map jx.1.1 jx.1.2 hj.1 hj.2, h.finish hm.1 hm.2 (by omega) hs.1 (by omega), h.finish hm.1 hm.2 (by omega) hs.1 (by omega), if_pos rfl, if_pos rfl]
      show beginV s (L.map (shJ d)) jb m (imax (b + d) (x.stop + d + setupAt s L x.job jb)) (r.map (sh d)) = _
      rw [show x.stop + d + setupAt s L x.job jb = x.stop + setupAt s L x.job jb + d by omega, imax_add, ih]
    · rw [if_neg e, if_neg (show ¬ (sh d x).mach = m from e), ih]
theorem begin_some (h : Alw s L) (hB : B ≤ 200000) {jb m : Int} (hj : 0 ≤ jb ∧ jb < L.length) (hm : 0 ≤ m ∧ m < s.cals.length) : ∀ {l : List SlotR}, (∀ x ∈ l, Bd s L B x) → ∀ b, 0 ≤ b → b ≤ B + 1000 → ∃ c, beginV s L jb m b l = some c ∧ 0 ≤ c ∧ c ≤ B + 1000
  | [], _, b, h0, h1 => ⟨b, rfl, h0, h1⟩
  | x :: r, hl, b, h0, h1 => by
    obtain ⟨nx, x1, x2, x3⟩ := hl x (by simp)
    have jx := nameB_iff.1 nx
    have hs := h.setup x.job jb jx.1.1 jx.1.2 hj.1 hj.2
    have ih := begin_some h hB hj hm (l := r) (fun y hy => hl y (by simp [hy]))
    unfold beginV
    by_cases e : x.mach = m
    · rw [if_pos e, h.finish hm.1 hm.2 (by omega) hs.1 (by omega), if_pos rfl]
      refine ih _ ?_ ?_ <;> rw [imax_eq] <;> show _ <;> simp only <;> omega
    · rw [if_neg e]
      exact ih b h0 h1
theorem ends_sh (b : Int) (l : List SlotR) : endsOf (b + d) (l.map (sh d)) = (endsOf b l).map (· + d) := by
  unfold endsOf
  rw [List.filter_map, List.map_map, List.map_map]
  congr 1
  refine List.filter_congr fun x _ => ?_
  exact decide_eq_decide.2 ⟨fun _ => by have : b + d < x.stop + d := by assumption
                                        omega, fun _ => by show b + d < x.stop + d; omega⟩
theorem fit_sh (h : Alw s L) (hd : 0 ≤ d ∧ d ≤ 5000) (hB : B + 11000 ≤ 200000) {l : List SlotR} (hl : ∀ x ∈ l, Bd s L B x) {jb m : Int} (hj : 0 ≤ jb ∧ jb < L.length) (hm : 0 ≤ m ∧ m < s.cals.length) : ∀ {ts : List Int}, (∀ t ∈ ts, 0 ≤ t ∧ t ≤ B + 1000) →
    firstFit s (L.map (shJ d)) (l.map (sh d)) jb m (ts.map (· + d)) = (firstFit s L l jb m ts).map (sh d) ∧ ∀ x, firstFit s L l jb m ts = some x → Bd s L (B + 11000) x
  | [], _ => ⟨rfl, fun x hx => by cases hx⟩
  | t :: ts, ht => by
    obtain ⟨t0, t1⟩ := ht t (by simp)
    have ih := fit_sh h hd hB hl hj hm (ts := ts) (fun u hu => ht u (by simp [hu]))
    have hdur := h.dur _ (jobAt_mem hj.1 hj.2)
    have n1 := h.next hm.1 hm.2 t0 (by omega)
    have n2 := h.next hm.1 hm.2 (show 0 ≤ t + d by omega) (by omega)
    have f1 := h.finish hm.1 hm.2 t0 hdur.1 (by omega)
    have f2 := h.finish hm.1 hm.2 (show 0 ≤ t + d by omega) hdur.1 (by omega)
    have hx : Bd s L (B + 11000) ⟨jb, m, t, t + (jobAt L jb).dur⟩ := ⟨nameB_iff.2 ⟨hj, hm⟩, t0, by show t ≤ t + _; omega, by show t + _ ≤ _; omega⟩
    have hl' : ∀ x ∈ l ++ [⟨jb, m, t, t + (jobAt L jb).dur⟩], Bd s L (B + 11000) x := fun x hx' => by
      rcases List.mem_append.1 hx' with h1 | h1
      · obtain ⟨q1, q2, q3, q4⟩ := hl x h1
        exact ⟨q1, q2, q3, by omega⟩
      · obtain rfl : x = _ := by simpa using h1
        exact hx
    have hv := valid_sh h hd hB hl' (d := d)
    rw [List.map_append] at hv
    rw [List.map_cons]
    unfold firstFit
    rw [n1, n2]
    simp only [if_true]
    rw [show (jobAt (L.map (shJ d)) jb).dur = (jobAt L jb).dur from by rw [jobAt_map hj.1 hj.2]; rfl, f1, f2]
    simp only [if_true]
    have ex : sh d ⟨jb, m, t, t + (jobAt L jb).dur⟩ = ⟨jb, m, t + d, t + d + (jobAt L jb).dur⟩ := by unfold sh; simp only; congr 1; omega
    rw [List.map_cons, List.map_nil, ex] at hv
    rw [hv]
    by_cases hok : (validV s L (l ++ [⟨jb, m, t, t + (jobAt L jb).dur⟩])).2 = 0
    · rw [if_pos hok, if_pos hok]
      refine ⟨by rw [Option.map_some, ex], fun x e => ?_⟩
      cases e
      exact hx
    · rw [if_neg hok, if_neg hok]
      exact ih
theorem ends_bd {l : List SlotR} (hl : ∀ x ∈ l, Bd s L B x) (b : Int) : ∀ t ∈ endsOf b l, 0 ≤ t ∧ t ≤ B := by
  intro t ht
  unfold endsOf at ht
  obtain ⟨x, hx, rfl⟩ := List.mem_map.1 ht
  obtain ⟨-, x1, x2, x3⟩ := hl x (List.mem_filter.1 hx).1
  omega
theorem on_sh (h : Alw s L) (hd : 0 ≤ d ∧ d ≤ 5000) (hB0 : 20000 ≤ B) (hB : B + 11000 ≤ 200000) {l : List SlotR} (hl : ∀ x ∈ l, Bd s L B x) {jb m : Int} (hj : 0 ≤ jb ∧ jb < L.length) (hm : 0 ≤ m ∧ m < s.cals.length) :
    onV s (L.map (shJ d)) (l.map (sh d)) jb m = (onV s L l jb m).map (sh d) ∧ ∀ x, onV s L l jb m = some x → Bd s L (B + 11000) x := by
  have hrel := h.rel _ (jobAt_mem hj.1 hj.2)
  obtain ⟨c, hc, c0, c1⟩ := begin_some h (by omega) hj hm hl _ hrel.1 (by omega)
  have e2 : beginV s (L.map (shJ d)) jb m (jobAt (L.map (shJ d)) jb).rel (l.map (sh d)) = some (c + d) := by
    rw [jobAt_map hj.1 hj.2]
    show beginV s (L.map (shJ d)) jb m ((jobAt L jb).rel + d) (l.map (sh d)) = _
    rw [begin_sh h hd (by omega) hj hm hl, hc]; rfl
  unfold onV
  rw [hc, e2]
  show firstFit s (L.map (shJ d)) (l.map (sh d)) jb m (sortI ((c + d) :: endsOf (c + d) (l.map (sh d)))) = (firstFit s L l jb m (sortI (c :: endsOf c l))).map (sh d) ∧ _
  rw [ends_sh, ← List.map_cons (f := (· + d)), sortI_map]
  refine fit_sh h hd hB hl hj hm fun t ht => ?_
  rcases List.mem_cons.1 ((sortI_perm _).subset ht) with rfl | ht
  · exact ⟨c0, c1⟩
  · have := ends_bd hl c t ht; omega
theorem better_sh (a b : Option SlotR) : betterS (a.map (sh d)) (b.map (sh d)) = (betterS a b).map (sh d) := by
  cases b with
  | none => rfl
  | some x =>
    cases a with
    | none => rfl
    | some y =>
      show (if x.stop + d < y.stop + d then some (sh d x) else some (sh d y)) = (if x.stop < y.stop then some x else some y).map (sh d)
      by_cases e : x.stop < y.stop
      · rw [if_pos e, if_pos (by omega)]; rfl
      · rw [if_neg e, if_neg (by omega)]; rfl
theorem fold_sh (h : Alw s L) (hd : 0 ≤ d ∧ d ≤ 5000) (hB0 : 20000 ≤ B) (hB : B + 11000 ≤ 200000) {l : List SlotR} (hl : ∀ x ∈ l, Bd s L B x) {jb : Int} (hj : 0 ≤ jb ∧ jb < L.length) : ∀ {ms : List Int}, (∀ m ∈ ms, 0 ≤ m ∧ m < s.cals.length) → ∀ (b : Option SlotR), (∀ x, b = some x → Bd s L (B + 11000) x) →
    ms.foldl (fun best m => betterS best (onV s (L.map (shJ d)) (l.map (sh d)) jb m)) (b.map (sh d)) = (ms.foldl (fun best m => betterS best (onV s L l jb m)) b).map (sh d) ∧ ∀ x, ms.foldl (fun best m => betterS best (onV s L l jb m)) b = some x → Bd s L (B + 11000) x
  | [], _, b, hb => ⟨rfl, hb⟩
  | m :: ms, hm, b, hb => by
    obtain ⟨o1, o2⟩ := on_sh h hd hB0 hB hl hj (hm m (by simp))
    have hb' : ∀ x, betterS b (onV s L l jb m) = some x → Bd s L (B + 11000) x := by
      intro x hx
      cases ho : onV s L l jb m with
      | none => rw [ho] at hx; exact hb x hx
      | some y =>
        rw [ho] at hx
        cases b with
        | none => cases hx; exact o2 _ ho
        | some z =>
          have hx' : (if y.stop < z.stop then some y else some z) = some x := hx
          split at hx'
          · cases hx'; exact o2 _ ho
          · cases hx'; exact hb _ rfl
    have ih := fold_sh h hd hB0 hB hl hj (ms := ms) (fun m' h' => hm m' (by simp [h'])) (betterS b (onV s L l jb m)) hb'
    rw [List.foldl_cons, List.foldl_cons, o1, better_sh]
    exact ih
theorem dispatch_sh (h : Alw s L) (hd : 0 ≤ d ∧ d ≤ 5000) (hB0 : 20000 ≤ B) (hB : B + 11000 ≤ 200000) {l : List SlotR} (hl : ∀ x ∈ l, Bd s L B x) {jb : Int} (hj : 0 ≤ jb ∧ jb < L.length) :
    dispatchV s (L.map (shJ d)) (l.map (sh d)) jb = (dispatchV s L l jb).map (sh d) ∧ ∀ x, dispatchV s L l jb = some x → Bd s L (B + 11000) x := by
  unfold dispatchV
  rw [show (jobAt (L.map (shJ d)) jb).ms = (jobAt L jb).ms from by rw [jobAt_map hj.1 hj.2]; rfl]
  exact fold_sh h hd hB0 hB hl hj (h.mach _ (jobAt_mem hj.1 hj.2)) none (fun x hx => by cases hx)
theorem asked_sh (l : List SlotR) (j : Int) : askedE (L.map (shJ d)) (l.map (sh d)) j = askedE L l j := by
  unfold askedE jobIn
  rw [List.length_map, any_map_eq (f := sh d) (l := l) (p := fun y : SlotR => y.job == j) (q := fun y : SlotR => y.job == j) (fun y _ => rfl)]
theorem go_sh (h : Alw s L) (hd : 0 ≤ d ∧ d ≤ 5000) : ∀ {r : List Int} {l : List SlotR} {left : List Int} {B : Int}, 20000 ≤ B → B + 11000 * r.length ≤ 200000 → (∀ x ∈ l, Bd s L B x) →
    listGo s (L.map (shJ d)) (l.map (sh d)) left r = ((listGo s L l left r).1, (listGo s L l left r).2.1.map (sh d), (listGo s L l left r).2.2)
      ∧ ∀ x ∈ (listGo s L l left r).2.1, Bd s L 200000 x
  | [], l, left, B, h0, h1, hl => ⟨rfl, fun x hx => by obtain ⟨q1, q2, q3, q4⟩ := hl x hx; exact ⟨q1, q2, q3, by simp at h1; omega⟩⟩
  | j :: r, l, left, B, h0, h1, hl => by
    rw [List.length_cons] at h1
    have h1' : B + 11000 + 11000 * (r.length : Int) ≤ 200000 := by omega
    unfold listGo
    rw [asked_sh]
    by_cases ha : askedE L l j = 0
    · have hj := asked_in ha
      obtain ⟨d1, d2⟩ := dispatch_sh h hd h0 (by omega) hl hj
      rw [if_pos ha, if_pos ha, d1]
      cases hx : dispatchV s L l j with
      | none => exact go_sh h hd h0 (by omega) hl
      | some x =>
        have := go_sh h hd (r := r) (l := l ++ [x]) (left := left) (B := B + 11000) (by omega) h1' (fun y hy => by
          rcases List.mem_append.1 hy with hy | hy
          · obtain ⟨q1, q2, q3, q4⟩ := hl y hy; exact ⟨q1, q2, q3, by omega⟩
          · obtain rfl : y = x := by simpa using hy
            exact d2 _ hx)
        rw [List.map_append] at this
        exact this
    · rw [if_neg ha, if_neg ha]
      exact ⟨rfl, fun x hx => by cases hx⟩
end
end Go.Proofs.Ytdcncalcncomoaa
/- Layer 52 (plain): the problem of ScheduleLater: what the reference's check says, and the schedules of both lists. -/
namespace Go.Proofs.Ytdcncalcncomoaa
open Go.RowKit
set_option linter.unusedVariables false

theorem all_range_iff {f : Nat → Bool} {n : Nat} : (List.range n).all f = true ↔ ∀ k, k < n → f k = true := by
  rw [List.all_eq_true]
  exact ⟨fun h k hk => h k (by simpa using hk), fun h k hk => h k (by simpa using hk)⟩
theorem wadd_small {a b : Int} (ha : 0 ≤ a ∧ a ≤ 1000) (hb : 0 ≤ b ∧ b ≤ 1000) : wadd a b = a + b := by unfold wadd wrap64; omega
theorem setups_cells {R : List RowR} (h : setupsR R = true) : (1 ≤ R.length ∧ R.length ≤ 8) ∧ sizesB R = true ∧ (∀ a k, a < R.length → k < R.length → 0 ≤ get2 R a k ∧ get2 R a k ≤ 1000) ∧ (∀ a, a < R.length → get2 R a a = 0) ∧ part2 R = true := by
  unfold setupsR at h
  simp only [Bool.and_eq_true, decide_eq_true_eq] at h
  obtain ⟨⟨h1, h2⟩, h3, h4⟩ := h
  have hrow : ∀ a, a < R.length → rowB R a = true := all_range_iff.1 h3
  refine ⟨by omega, ?_, ?_, ?_, h4⟩
  · unfold sizesB
    rw [List.all_eq_true]
    intro r hr
    obtain ⟨a, ha, rfl⟩ := List.getElem_of_mem hr
    have := part1_len h3 a ha
    simpa using this
  · intro a k ha hk
    have := hrow a ha
    unfold rowB at this
    rw [Bool.and_eq_true] at this
    have := all_range_iff.1 this.2 k hk
    unfold cellR at this
    simpa using this
  · intro a ha
    have := hrow a ha
    unfold rowB at this
    simp only [Bool.and_eq_true, beq_iff_eq] at this
    exact this.1.2
theorem setups_ok {R : List RowR} (h : setupsR R = true) : setupB R = true := by
  obtain ⟨-, -, h3, h4, h5⟩ := setups_cells h
  unfold setupB
  refine all_range_iff.2 fun a ha => ?_
  unfold lineB
  refine all_range_iff.2 fun c hc => ?_
  unfold cellB nearB
  have hn := h3 a c ha hc
  rw [show decide (0 ≤ get2 R a c) = true from decide_eq_true hn.1, show decide (get2 R a c ≤ 1000) = true from decide_eq_true hn.2]
  simp only [Bool.true_and, Bool.and_eq_true]
  constructor
  · by_cases e : a = c
    · subst e; rw [h4 a ha]; simp
    · simp [e]
  · refine all_range_iff.2 fun b hb => ?_
    unfold triB
    have := all_range_iff.1 (all_range_iff.1 (all_range_iff.1 h5 a ha) b hb) c hc
    unfold triR at this
    exact this
theorem setups_of {R : List RowR} (h : setupB R = true) (hs : sizesB R = true) (h1 : 1 ≤ R.length) (h8 : R.length ≤ 8) : setupsR R = true := by
  have hc : ∀ a c, a < R.length → c < R.length → cellB R a c = true := fun a c ha hc => all_range_iff.1 (all_range_iff.1 h a ha) c hc
  have hn : ∀ a c, a < R.length → c < R.length → 0 ≤ get2 R a c ∧ get2 R a c ≤ 1000 ∧ (a = c → get2 R a c = 0) := by
    intro a c ha hc'
    have := hc a c ha hc'
    unfold cellB nearB at this
    simp only [Bool.and_eq_true, decide_eq_true_eq, Bool.not_eq_true'] at this
    refine ⟨this.1.1.1, this.1.1.2, fun e => ?_⟩
    have h2 := this.1.2
    rw [e] at h2
    rw [e]
    simpa using h2
  have hl : ∀ a (ha : a < R.length), R[a].xs.length = R.length := fun a ha => by
    have := List.all_eq_true.1 hs R[a] (List.getElem_mem ha)
    simpa using this
  unfold setupsR part1 part2
  simp only [Bool.and_eq_true, decide_eq_true_eq]
  refine ⟨⟨by omega, by omega⟩, all_range_iff.2 fun a ha => ?_, all_range_iff.2 fun a ha => all_range_iff.2 fun b hb => all_range_iff.2 fun c hc' => ?_⟩
  · unfold rowB
    rw [lenAt_at ha, hl a ha, (hn a a ha ha).2.2 rfl]
    simp only [beq_self_eq_true, Bool.true_and]
    refine all_range_iff.2 fun k hk => ?_
    unfold cellR
    have := hn a k ha hk
    simp [this.1, this.2.1]
  · have := hc a c ha hc'
    unfold cellB at this
    rw [Bool.and_eq_true] at this
    exact all_range_iff.1 this.2 b hb
theorem jobR_eq (s : ShopR) (j : JobR) : jobR s j = jobB s j := by unfold jobR jobB; rw [Bool.and_comm]
/-- Both checks say the same. -/
theorem refCheck_eq (s : ShopR) (L : List JobR) : refCheckB s L = checkS s L := by
  rw [Bool.eq_iff_iff]
  unfold refCheckB headR checkS shopB headB
  simp only [Bool.and_eq_true, decide_eq_true_eq, Bool.not_eq_true', List.any_eq_false, List.all_eq_true]
  constructor
  · rintro ⟨⟨a1, a2, a3, a4, a5, a6⟩, b1, b2⟩
    obtain ⟨k1, k2, -⟩ := setups_cells a3
    exact ⟨⟨⟨⟨by omega, by omega⟩, b1, ⟨by omega, by omega⟩, a4, a5⟩, k2, setups_ok a3⟩, by omega, fun j hj => by have := b2 j hj; rw [jobR_eq] at this; simp [this]⟩
  · rintro ⟨⟨⟨⟨a1, a2⟩, b1, ⟨c1, c2⟩, a4, a5⟩, k2, k3⟩, a6, b2⟩
    exact ⟨⟨by omega, by omega, setups_of k3 k2 (by omega) (by omega), a4, a5, by omega⟩, b1, fun j hj => by have := b2 j hj; rw [jobR_eq]; simpa using this⟩
/-- A shop with other calendars. -/
def shopW (s : ShopR) (A : Option Addr) (c : Nat) (AL : List CalR) : ShopR := ⟨A, c, AL, s.B, s.d, s.rows, s.most⟩
def OpenC (x : CalR) : Prop := x.P = 1 ∧ x.S = [(0, 1)] ∧ x.D = []
theorem check_always {s : ShopR} {L : List JobR} (h : checkS s L = true) (A : Option Addr) (c : Nat) {AL : List CalR} (hl : AL.length = s.cals.length) (ha : ∀ x ∈ AL, OpenC x) : checkS (shopW s A c AL) L = true := by
  unfold checkS shopB headB at *
  simp only [Bool.and_eq_true, decide_eq_true_eq, Bool.not_eq_true', List.any_eq_false] at *
  obtain ⟨⟨⟨⟨a1, a2⟩, b1, ⟨c1, c2⟩, a4, a5⟩, k2, k3⟩, a6, b2⟩ := h
  refine ⟨⟨⟨⟨by show (1 : Int) ≤ AL.length; omega, by show (AL.length : Int) ≤ 6; omega⟩, fun x hx => ?_, ⟨c1, c2⟩, a4, a5⟩, k2, k3⟩, a6, fun j hj => ?_⟩
  · obtain ⟨e1, e2, e3⟩ := ha x hx
    unfold wrongC
    rw [e1, e2, e3, valid_always (by omega) (by omega)]; simp
  · have := b2 j hj
    unfold jobB at *
    rw [show (shopW s A c AL).cals.length = s.cals.length from hl]; exact this
theorem check_later {s : ShopR} {L : List JobR} {d : Int} (h : checkS s L = true) (hd : 0 ≤ d ∧ d ≤ 5000) (hr : ∀ j ∈ L, j.rel ≤ 20000 ∧ j.due ≤ 20000) : checkS s (L.map (shJ d)) = true := by
  unfold checkS at *
  simp only [Bool.and_eq_true, decide_eq_true_eq, Bool.not_eq_true', List.any_eq_false] at *
  obtain ⟨a, b, c⟩ := h
  refine ⟨a, by rw [List.length_map]; exact b, fun j hj => ?_⟩
  obtain ⟨i, hi, rfl⟩ := List.mem_map.1 hj
  have := c i hi
  have hri := hr i hi
  have hp := job_parts (j := i) (s := s) (by simpa using this)
  have : jobB s (shJ d i) = true := by
    unfold jobB restB
    simp only [Bool.and_eq_true, decide_eq_true_eq]
    exact ⟨hp.1, hp.2.1, hp.2.2.1, ⟨hp.2.2.2.1.1, by show i.cls ≤ _; have := hp.2.2.2.1.2; omega⟩, ⟨by show 0 ≤ i.rel + d; omega, by show i.rel + d ≤ _; omega⟩, ⟨by show 0 ≤ i.due + d; omega, by show i.due + d ≤ _; omega⟩, hp.2.2.2.2.2.2⟩
  simp [this]
theorem small_rel {s : ShopR} {L : List JobR} (h : smallB s L = true) (hc : checkS s L = true) : ∀ j ∈ L, j.rel ≤ 20000 := by
  intro j hj
  unfold smallB at h
  simp only [Bool.and_eq_true, Bool.not_eq_true', List.any_eq_false] at h
  have h1 := h.1 j hj
  have h2 := (job_parts (check_job hc hj)).2.2.2.2.1
  unfold lateB at h1
  simp only [Bool.and_eq_true, decide_eq_true_eq] at h1
  omega
theorem alw_of {s : ShopR} {L : List JobR} (h : checkS s L = true) (ha : ∀ x ∈ s.cals, OpenC x) (hr : ∀ j ∈ L, j.rel ≤ 20000) : Alw s L := by
  refine ⟨ha, fun j hj => ?_, fun j hj => ?_, check_machs h, fun a b a0 a1 b0 b1 => ?_⟩
  · have := (job_parts (check_job h hj)).2.2.1; omega
  · have := (job_parts (check_job h hj)).2.2.2.2.1; have := hr j hj; omega
  · have hm := jobAt_mem a0 a1
    have hm2 := jobAt_mem b0 b1
    have c1 := (job_parts (check_job h hm)).2.2.2.1
    have c2 := (job_parts (check_job h hm2)).2.2.2.1
    have hc := refCheck_eq s L
    rw [h] at hc
    unfold refCheckB headR at hc
    simp only [Bool.and_eq_true] at hc
    exact (setups_cells hc.1.2.2.1).2.2.1 _ _ (by omega) (by omega)
theorem list_later {s : ShopR} {L : List JobR} {d : Int} {order : List Int} (h : checkS s L = true) (ha : ∀ x ∈ s.cals, OpenC x) (hr : ∀ j ∈ L, j.rel ≤ 20000 ∧ j.due ≤ 20000) (hd : 0 ≤ d ∧ d ≤ 5000) (ho : order.length ≤ 8) :
    listV s (L.map (shJ d)) order = ((listV s L order).1, (listV s L order).2.1.map (sh d), (listV s L order).2.2) ∧ ∀ x ∈ (listV s L order).2.1, (0 ≤ x.start ∧ x.start ≤ 200000) ∧ 0 ≤ x.stop ∧ x.stop ≤ 200000 := by
  have := go_sh (alw_of h ha fun j hj => (hr j hj).1) hd (r := order) (l := []) (left := []) (B := 20000) (by omega) (by omega) (fun x hx => by cases hx)
  unfold listV
  rw [if_pos h, if_pos (check_later h hd hr)]
  exact ⟨this.1, fun x hx => by obtain ⟨-, x1, x2, x3⟩ := this.2 x hx; omega⟩
end Go.Proofs.Ytdcncalcncomoaa
