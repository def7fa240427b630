/- Layer 52: calendars that are always open; the example of the document, as values. -/
import Derived.Test.YtdcncalcncomoaaSch26
import Derived.Test.YtdcncalcncomoaaCalPlain3
namespace Go.Proofs.Ytdcncalcncomoaa
open Go.RowKit Go.Sort
set_option linter.unusedVariables false

theorem cnt_all {f : Int → Bool} (h : ∀ t, f t = true) (a : Int) : ∀ n, cnt f a n = n
  | 0 => rfl
  | n + 1 => by
    show cnt f a n + (if f (a + n) = true then 1 else 0) = _
    rw [cnt_all h a n, h, if_pos rfl]; omega
section
variable {P : Int}
theorem openI_always (hP : 1 ≤ P) (t : Int) : openI P [(0, P)] [] t = true := by
  unfold openI
  rw [inI_cons, inI_nil, inI_nil]
  have h1 := Int.emod_nonneg t (show P ≠ 0 by omega)
  have h2 := Int.emod_lt_of_pos t (show 0 < P by omega)
  simp; omega
theorem valid_always (hP : 1 ≤ P) (hP2 : P ≤ 10000) : validB P [(0, P)] [] = true := by
  unfold validB spansB
  rw [show ascI P (-1) [(0, P)] = true from ascI_cons.2 ⟨by show (-1 : Int) < 0; omega, by show (0 : Int) < P; omega, Int.le_refl _, rfl⟩]
  simp [ascI]; omega
theorem finish_always (hP : 1 ≤ P) (hP2 : P ≤ 10000) {t k : Int} (h0 : 0 ≤ t) (k0 : 0 ≤ k) (h1 : t + k ≤ 1000000) : finishV P [(0, P)] [] t k = (t + k, 0) := by
  rw [finishV_eq (valid_always hP hP2) (timeB_iff.2 ⟨h0, by omega⟩) (timeB_iff.2 ⟨k0, by omega⟩)]
  refine found_at (by omega) (by omega) (fun i hi => ?_) ?_
  · show decide (k ≤ cnt _ t i) = false
    rw [cnt_all (openI_always hP)]; simp; omega
  · show decide (k ≤ cnt _ t _) = true
    rw [cnt_all (openI_always hP)]; simp; omega
theorem next_always (hP : 1 ≤ P) (hP2 : P ≤ 10000) {t : Int} (h0 : 0 ≤ t) (h1 : t ≤ 1000000) : nextV P [(0, P)] [] t = (t, 0) := by
  rw [nextV_eq (valid_always hP hP2) (timeB_iff.2 ⟨h0, h1⟩)]
  exact found_at (Int.le_refl _) (by omega) (fun i hi => by omega) (openI_always hP _)
theorem work_always (hP : 1 ≤ P) (hP2 : P ≤ 10000) {a b : Int} (h0 : 0 ≤ a) (h1 : a ≤ b) (h2 : b ≤ 1000000) : workV P [(0, P)] [] a b = (b - a, 0) := by
  rw [workV_eq (valid_always hP hP2) (by unfold checkB; simp; omega), cnt_all (openI_always hP)]
  congr 1; omega
theorem open_always (hP : 1 ≤ P) (hP2 : P ≤ 10000) {t : Int} (h0 : 0 ≤ t) (h1 : t ≤ 1000000) : openV P [(0, P)] [] t = true := by
  unfold openV
  rw [valid_always hP hP2, timeB_iff.2 ⟨h0, h1⟩, openI_always hP]; rfl
end

theorem cnt_any (L : List JobR) (n : Nat) : ∀ l : List SlotR, (List.range n).countP (fun o : Nat => l.any fun x => ordAt L x == (o : Int)) ≤ l.length
  | [] => by rw [List.countP_eq_zero.2 (fun _ _ => by simp)]; exact Nat.zero_le _
  | x :: l => by
    have ih := cnt_any L n l
    rw [List.length_cons]
    by_cases h0 : 0 ≤ ordAt L x
    · obtain ⟨i, hi⟩ : ∃ i : Nat, ordAt L x = i := ⟨(ordAt L x).toNat, by omega⟩
      have e := cnt_set (fun o : Nat => l.any fun x => ordAt L x == (o : Int)) i n
      have e2 : (fun o : Nat => (x :: l).any fun x => ordAt L x == (o : Int)) = fun o : Nat => (l.any fun x => ordAt L x == (o : Int)) || ((i : Int) == (o : Int)) := by
        funext o; rw [List.any_cons, hi, Bool.or_comm]
      rw [e2, e]
      split <;> omega
    · have e2 : (fun o : Nat => (x :: l).any fun x => ordAt L x == (o : Int)) = fun o : Nat => l.any fun x => ordAt L x == (o : Int) := by
        funext o
        rw [List.any_cons, show (ordAt L x == (o : Int)) = false from by simp; omega, Bool.false_or]
      rw [e2]; omega
set_option maxRecDepth 100000 in
theorem openN_le (L : List JobR) (t : Int) (l : List SlotR) : openN L t l ≤ l.length := by
  unfold openN openTo
  have h1 := cnt_any L 1001 l
  have h2 : (List.range 1001).countP (fun o => begunB L t l o && unfinB L t l o) ≤ (List.range 1001).countP (fun o : Nat => l.any fun x => ordAt L x == (o : Int)) := by
    refine List.countP_mono_left fun o _ h => ?_
    rw [Bool.and_eq_true] at h
    unfold begunB at h
    obtain ⟨x, hx, hb⟩ := List.any_eq_true.1 h.1
    rw [Bool.and_eq_true] at hb
    exact List.any_eq_true.2 ⟨x, hx, hb.1⟩
  omega
theorem openE_few {s : ShopR} {L : List JobR} {l : List SlotR} (h : (l.length : Int) ≤ s.most) (k : Nat) : openE s L l k = 0 := by
  unfold openE
  have := openN_le L (l.getD k noSlot).start l
  rw [if_neg (by omega)]
theorem firstBad_none {f : Nat → Int} (h : ∀ k, f k = 0) : ∀ l, firstBad f l = none
  | [] => rfl
  | k :: l => by unfold firstBad; rw [if_pos (h k), firstBad_none h l]
theorem firstBad_mem {f : Nat → Int} : ∀ l, (∀ k ∈ l, f k = 0) → firstBad f l = none
  | [], _ => rfl
  | k :: l, h => by unfold firstBad; rw [if_pos (h k (by simp)), firstBad_mem l fun j hj => h j (by simp [hj])]
theorem valid_none {s : ShopR} {L : List JobR} {l : List SlotR} (h1 : ∀ k, k < l.length → fitE s L l k = 0) (h2 : (l.length : Int) ≤ s.most) : validV s L l = ((l.length : Int), 0) := by
  unfold validV
  rw [firstBad_mem _ (fun k hk => h1 k (by simpa using hk)), firstBad_none (openE_few h2)]
theorem firstFit_hit {s : ShopR} {L : List JobR} {l : List SlotR} {jb m t n e : Int} {r : List Int} (h1 : nextAt s m t = (n, 0)) (h2 : finishAt s m n (jobAt L jb).dur = (e, 0)) (h3 : (validV s L (l ++ [⟨jb, m, n, e⟩])).2 = 0) : firstFit s L l jb m (t :: r) = some ⟨jb, m, n, e⟩ := by
  unfold firstFit
  simp only [h1, h2, h3, if_true]
section
variable (A : Option Addr) (a : Nat) (A1 : Option Addr) (a1 : Nat) (B : Option Addr) (b : Nat) (B1 : Option Addr) (b1 : Nat) (B2 : Option Addr) (b2 : Nat) (J1 : Option Addr) (j1 : Nat) (J2 : Option Addr) (j2 : Nat)
def exS : ShopR := ⟨A, a, [⟨10, A1, a1, [(0, 10)], none, 0, []⟩], B, b, [⟨B1, b1, [0, 2]⟩, ⟨B2, b2, [1, 0]⟩], 2⟩
def exL : List JobR := [⟨J1, j1, [0], 5, 0, 0, 9, 0⟩, ⟨J2, j2, [0], 5, 1, 0, 9, 1⟩]
theorem ex_check : checkS (exS A a A1 a1 B b B1 b1 B2 b2) (exL J1 j1 J2 j2) = true := by kernel_rfl
theorem ex_finish {t k : Int} (h0 : 0 ≤ t) (k0 : 0 ≤ k) (h1 : t + k ≤ 1000000) : finishAt (exS A a A1 a1 B b B1 b1 B2 b2) 0 t k = (t + k, 0) := finish_always (P := 10) (by omega) (by omega) h0 k0 h1
theorem ex_next {t : Int} (h0 : 0 ≤ t) (h1 : t ≤ 1000000) : nextAt (exS A a A1 a1 B b B1 b1 B2 b2) 0 t = (t, 0) := next_always (P := 10) (by omega) (by omega) h0 h1
theorem ex_work {t u : Int} (h0 : 0 ≤ t) (h1 : t ≤ u) (h2 : u ≤ 1000000) : workAt (exS A a A1 a1 B b B1 b1 B2 b2) 0 t u = (u - t, 0) := work_always (P := 10) (by omega) (by omega) h0 h1 h2
theorem ex_open {t : Int} (h0 : 0 ≤ t) (h1 : t ≤ 1000000) : openAt (exS A a A1 a1 B b B1 b1 B2 b2) 0 t = true := open_always (P := 10) (by omega) (by omega) h0 h1
theorem ex_slot1 : slotE (exS A a A1 a1 B b B1 b1 B2 b2) (exL J1 j1 J2 j2) [] ⟨0, 0, 0, 5⟩ = 0 := by
  have h1 : shiftB (exS A a A1 a1 B b B1 b1 B2 b2) (exL J1 j1 J2 j2) ⟨0, 0, 0, 5⟩ = true := by
    show (openAt (exS A a A1 a1 B b B1 b1 B2 b2) 0 0 && ((finishAt (exS A a A1 a1 B b B1 b1 B2 b2) 0 0 5).2 == 0 && (finishAt (exS A a A1 a1 B b B1 b1 B2 b2) 0 0 5).1 == 5)) = true
    rw [ex_open _ _ _ _ _ _ _ _ _ _ (by omega) (by omega), ex_finish _ _ _ _ _ _ _ _ _ _ (by omega) (by omega) (by omega)]; rfl
  unfold slotE
  rw [h1, show nameB (exS A a A1 a1 B b B1 b1 B2 b2) (exL J1 j1 J2 j2) ⟨0, 0, 0, 5⟩ = true from by kernel_rfl, show (jobAt (exL J1 j1 J2 j2) (⟨0, 0, 0, 5⟩ : SlotR).job).ms.any (fun m => (⟨0, 0, 0, 5⟩ : SlotR).mach == m) = true from by kernel_rfl]
  rfl
theorem ex_follows : followsB (exS A a A1 a1 B b B1 b1 B2 b2) (exL J1 j1 J2 j2) ⟨0, 0, 0, 5⟩ ⟨1, 0, 7, 12⟩ = true := by
  show (!decide ((7 : Int) < 5) && ((workAt (exS A a A1 a1 B b B1 b1 B2 b2) 0 5 7).2 == 0 && decide (setupAt (exS A a A1 a1 B b B1 b1 B2 b2) (exL J1 j1 J2 j2) 0 1 ≤ (workAt (exS A a A1 a1 B b B1 b1 B2 b2) 0 5 7).1))) = true
  rw [ex_work _ _ _ _ _ _ _ _ _ _ (by omega) (by omega) (by omega), show setupAt (exS A a A1 a1 B b B1 b1 B2 b2) (exL J1 j1 J2 j2) 0 1 = 2 from by kernel_rfl]; rfl
theorem ex_slot2 : slotE (exS A a A1 a1 B b B1 b1 B2 b2) (exL J1 j1 J2 j2) [⟨0, 0, 0, 5⟩] ⟨1, 0, 7, 12⟩ = 0 := by
  have h1 : shiftB (exS A a A1 a1 B b B1 b1 B2 b2) (exL J1 j1 J2 j2) ⟨1, 0, 7, 12⟩ = true := by
    show (openAt (exS A a A1 a1 B b B1 b1 B2 b2) 0 7 && ((finishAt (exS A a A1 a1 B b B1 b1 B2 b2) 0 7 5).2 == 0 && (finishAt (exS A a A1 a1 B b B1 b1 B2 b2) 0 7 5).1 == 12)) = true
    rw [ex_open _ _ _ _ _ _ _ _ _ _ (by omega) (by omega), ex_finish _ _ _ _ _ _ _ _ _ _ (by omega) (by omega) (by omega)]; rfl
  have h2 : clashB (exS A a A1 a1 B b B1 b1 B2 b2) (exL J1 j1 J2 j2) ⟨1, 0, 7, 12⟩ ⟨0, 0, 0, 5⟩ = false := by
    unfold clashB; rw [ex_follows]; rfl
  unfold slotE
  rw [h1, show nameB (exS A a A1 a1 B b B1 b1 B2 b2) (exL J1 j1 J2 j2) ⟨1, 0, 7, 12⟩ = true from by kernel_rfl, show (jobAt (exL J1 j1 J2 j2) (⟨1, 0, 7, 12⟩ : SlotR).job).ms.any (fun m => (⟨1, 0, 7, 12⟩ : SlotR).mach == m) = true from by kernel_rfl,
    show [(⟨0, 0, 0, 5⟩ : SlotR)].any (clashB (exS A a A1 a1 B b B1 b1 B2 b2) (exL J1 j1 J2 j2) ⟨1, 0, 7, 12⟩) = false from by rw [List.any_cons, h2]; rfl]
  rfl
theorem ex_valid1 : validV (exS A a A1 a1 B b B1 b1 B2 b2) (exL J1 j1 J2 j2) [⟨0, 0, 0, 5⟩] = (1, 0) :=
  valid_none (fun k hk => by
    have : k = 0 := by simp at hk; omega
    subst this
    exact (show fitE (exS A a A1 a1 B b B1 b1 B2 b2) (exL J1 j1 J2 j2) [⟨0, 0, 0, 5⟩] 0 = slotE (exS A a A1 a1 B b B1 b1 B2 b2) (exL J1 j1 J2 j2) [] ⟨0, 0, 0, 5⟩ from rfl).trans (ex_slot1 _ _ _ _ _ _ _ _ _ _ _ _ _ _)) (by show (1 : Int) ≤ 2; omega)
theorem ex_valid2 : validV (exS A a A1 a1 B b B1 b1 B2 b2) (exL J1 j1 J2 j2) [⟨0, 0, 0, 5⟩, ⟨1, 0, 7, 12⟩] = (2, 0) :=
  valid_none (fun k hk => by
    have : k = 0 ∨ k = 1 := by simp at hk; omega
    rcases this with rfl | rfl
    · exact (show fitE (exS A a A1 a1 B b B1 b1 B2 b2) (exL J1 j1 J2 j2) [⟨0, 0, 0, 5⟩, ⟨1, 0, 7, 12⟩] 0 = slotE (exS A a A1 a1 B b B1 b1 B2 b2) (exL J1 j1 J2 j2) [] ⟨0, 0, 0, 5⟩ from rfl).trans (ex_slot1 _ _ _ _ _ _ _ _ _ _ _ _ _ _)
    · exact (show fitE (exS A a A1 a1 B b B1 b1 B2 b2) (exL J1 j1 J2 j2) [⟨0, 0, 0, 5⟩, ⟨1, 0, 7, 12⟩] 1 = slotE (exS A a A1 a1 B b B1 b1 B2 b2) (exL J1 j1 J2 j2) [⟨0, 0, 0, 5⟩] ⟨1, 0, 7, 12⟩ from rfl).trans (ex_slot2 _ _ _ _ _ _ _ _ _ _ _ _ _ _)) (by show (2 : Int) ≤ 2; omega)
theorem ex_on1 : onV (exS A a A1 a1 B b B1 b1 B2 b2) (exL J1 j1 J2 j2) [] 0 0 = some ⟨0, 0, 0, 5⟩ := by
  unfold onV
  rw [show beginV (exS A a A1 a1 B b B1 b1 B2 b2) (exL J1 j1 J2 j2) 0 0 (jobAt (exL J1 j1 J2 j2) 0).rel [] = some 0 from by kernel_rfl]
  have h2 : finishAt (exS A a A1 a1 B b B1 b1 B2 b2) 0 0 (jobAt (exL J1 j1 J2 j2) 0).dur = (5, 0) := by
    rw [show (jobAt (exL J1 j1 J2 j2) 0).dur = 5 from rfl, ex_finish _ _ _ _ _ _ _ _ _ _ (by omega) (by omega) (by omega)]; rfl
  exact firstFit_hit (t := 0) (r := []) (ex_next _ _ _ _ _ _ _ _ _ _ (by omega) (by omega)) h2 (by rw [List.nil_append, ex_valid1])
theorem ex_fin2 : finishAt (exS A a A1 a1 B b B1 b1 B2 b2) 0 5 (setupAt (exS A a A1 a1 B b B1 b1 B2 b2) (exL J1 j1 J2 j2) 0 1) = (7, 0) := by
  rw [show setupAt (exS A a A1 a1 B b B1 b1 B2 b2) (exL J1 j1 J2 j2) 0 1 = 2 from by kernel_rfl]
  exact (ex_finish _ _ _ _ _ _ _ _ _ _ (t := 5) (k := 2) (by omega) (by omega) (by omega)).trans (by rw [show (5 : Int) + 2 = 7 by omega])
theorem ex_fin3 : finishAt (exS A a A1 a1 B b B1 b1 B2 b2) 0 7 (jobAt (exL J1 j1 J2 j2) 1).dur = (12, 0) := by
  rw [show (jobAt (exL J1 j1 J2 j2) 1).dur = 5 from by kernel_rfl, ex_finish _ _ _ _ _ _ _ _ _ _ (by omega) (by omega) (by omega), show (7 : Int) + 5 = 12 by omega]
theorem begin_one {s : ShopR} {L : List JobR} {jb m b t : Int} {x : SlotR} (h1 : x.mach = m) (h2 : finishAt s m x.stop (setupAt s L x.job jb) = (t, 0)) : beginV s L jb m b [x] = some (imax b t) := by
  unfold beginV
  rw [if_pos h1, h2, if_pos rfl]
  unfold beginV
  rfl
theorem ex_begin2 : beginV (exS A a A1 a1 B b B1 b1 B2 b2) (exL J1 j1 J2 j2) 1 0 (jobAt (exL J1 j1 J2 j2) 1).rel [⟨0, 0, 0, 5⟩] = some 7 := by
  rw [show (jobAt (exL J1 j1 J2 j2) 1).rel = 0 from by kernel_rfl]
  exact (begin_one (x := ⟨0, 0, 0, 5⟩) rfl (ex_fin2 _ _ _ _ _ _ _ _ _ _ _ _ _ _)).trans (by rw [show imax 0 7 = 7 from by kernel_rfl])
theorem onV_hit {s : ShopR} {L : List JobR} {l : List SlotR} {jb m b : Int} {ts : List Int} (h1 : beginV s L jb m (jobAt L jb).rel l = some b) (h2 : sortI (b :: endsOf b l) = ts) : onV s L l jb m = firstFit s L l jb m ts := by
  unfold onV
  rw [h1, ← h2]
theorem ex_sort2 : sortI (7 :: endsOf 7 [⟨0, 0, 0, 5⟩]) = [7] := by kernel_rfl
theorem ex_val2 : (validV (exS A a A1 a1 B b B1 b1 B2 b2) (exL J1 j1 J2 j2) ([⟨0, 0, 0, 5⟩] ++ [⟨1, 0, 7, 12⟩])).2 = 0 := by rw [List.singleton_append, ex_valid2]
theorem ex_on2 : onV (exS A a A1 a1 B b B1 b1 B2 b2) (exL J1 j1 J2 j2) [⟨0, 0, 0, 5⟩] 1 0 = some ⟨1, 0, 7, 12⟩ :=
  (onV_hit (ex_begin2 _ _ _ _ _ _ _ _ _ _ _ _ _ _) ex_sort2).trans (firstFit_hit (ex_next _ _ _ _ _ _ _ _ _ _ (by omega) (by omega)) (ex_fin3 _ _ _ _ _ _ _ _ _ _ _ _ _ _) (ex_val2 _ _ _ _ _ _ _ _ _ _ _ _ _ _))
theorem ex_dis1 : dispatchV (exS A a A1 a1 B b B1 b1 B2 b2) (exL J1 j1 J2 j2) [] 0 = some ⟨0, 0, 0, 5⟩ := by
  unfold dispatchV
  rw [show (jobAt (exL J1 j1 J2 j2) 0).ms = [0] from rfl, List.foldl_cons, List.foldl_nil, ex_on1]; rfl
theorem ex_dis2 : dispatchV (exS A a A1 a1 B b B1 b1 B2 b2) (exL J1 j1 J2 j2) [⟨0, 0, 0, 5⟩] 1 = some ⟨1, 0, 7, 12⟩ := by
  unfold dispatchV
  rw [show (jobAt (exL J1 j1 J2 j2) 1).ms = [0] from rfl, List.foldl_cons, List.foldl_nil, ex_on2]; rfl
theorem ex_list : listV (exS A a A1 a1 B b B1 b1 B2 b2) (exL J1 j1 J2 j2) [0, 1] = (0, [⟨0, 0, 0, 5⟩, ⟨1, 0, 7, 12⟩], []) := by
  unfold listV
  rw [ex_check, if_pos rfl, listGo, show askedE (exL J1 j1 J2 j2) [] 0 = 0 from by kernel_rfl, if_pos rfl, ex_dis1]
  simp only [List.nil_append]
  rw [listGo, show askedE (exL J1 j1 J2 j2) [⟨0, 0, 0, 5⟩] 1 = 0 from by kernel_rfl, if_pos rfl, ex_dis2]
  simp only [List.singleton_append]
  rw [listGo]
theorem ex_validT : validT (exS A a A1 a1 B b B1 b1 B2 b2) (exL J1 j1 J2 j2) [⟨0, 0, 0, 5⟩, ⟨1, 0, 7, 12⟩] = (2, 0) := by
  unfold validT; rw [ex_check, if_pos rfl, ex_valid2]
theorem ex_price : priceV (exL J1 j1 J2 j2) [⟨0, 0, 0, 5⟩, ⟨1, 0, 7, 12⟩] = ⟨0, 3, 3, 12⟩ := by kernel_rfl
end
end Go.Proofs.Ytdcncalcncomoaa
