/- Contracts of the calendar: checked, Open, Work, and the reference's check, Open, Work, Next, Finish, Latest. -/
import Derived.Test.YtpaojgfmffkodaaGreatLCal2
import Derived.Test.YtpaojgfmffkodaaGreatLCalLay
namespace Go.Proofs.YtpaojgfmffkodaaGreat
set_option linter.unusedVariables false
set_option linter.unusedSimpArgs false
open Go.RowKit
structure IsCal (w : World) (P : Int) (A : Option Addr) (n c : Nat) (B : Option Addr) (m d : Nat) (S D : List (Int × Int)) : Prop where
  n : n = S.length
  m : m = D.length
  s : IsIvs w A c S
  d : IsIvs w B d D
  ns : S.length < 4611686018427387904
  nd : D.length < 4611686018427387904
theorem IsCal.of {w w' : World} {P : Int} {A B : Option Addr} {n c m d : Nat} {S D : List (Int × Int)} (h : IsCal w P A n c B m d S D) (hs : SinceOf w w') : IsCal w' P A n c B m d S D :=
  ⟨h.n, h.m, h.s.of hs, h.d.of hs, h.ns, h.nd⟩
def checkB (a b : Int) : Bool := decide (0 ≤ a) && decide (a ≤ b) && decide (b ≤ 1000000)
def errI (v c : Bool) : Int := if v = true then (if c = true then 0 else 2) else 1
structure GoodCal (P : Int) (S D : List (Int × Int)) : Prop where
  p1 : 1 ≤ P
  p2 : P ≤ 10000
  s : ascI P (-1) S = true
  d : ascI 1000000 (-1) D = true
  s20 : S.length ≤ 20
  d20 : D.length ≤ 20
theorem validB_iff {P : Int} {S D : List (Int × Int)} : validB P S D = true ↔ GoodCal P S D := by
  unfold validB spansB
  simp only [Bool.and_eq_true, decide_eq_true_eq]
  constructor
  · rintro ⟨⟨⟨h1, h2⟩, h3, h4⟩, h5, h6⟩; exact ⟨h1, h2, h3, h5, by omega, by omega⟩
  · rintro ⟨h1, h2, h3, h5, h4, h6⟩; exact ⟨⟨⟨h1, h2⟩, h3, by omega⟩, h5, by omega⟩
theorem checkB_iff {a b : Int} : checkB a b = true ↔ 0 ≤ a ∧ a ≤ b ∧ b ≤ 1000000 := by unfold checkB; simp [and_assoc]
theorem timeB_iff {a : Int} : timeB a = true ↔ 0 ≤ a ∧ a ≤ 1000000 := by unfold timeB; simp
theorem timeB_not {a : Int} : timeB a = false ↔ ¬ (0 ≤ a ∧ a ≤ 1000000) := by rw [← timeB_iff, Bool.not_eq_true]
theorem checkB_not {a b : Int} : checkB a b = false ↔ ¬ (0 ≤ a ∧ a ≤ b ∧ b ≤ 1000000) := by rw [← checkB_iff, Bool.not_eq_true]
section
variable {P : Int} {A B : Option Addr} {n c m d : Nat} {S D : List (Int × Int)} {w : World}
theorem IsCal.valid (h : IsCal w P A n c B m d S D) {v : Bool} (hv : validB P S D = v) : ∀ W, SinceOf w W → Gives Tryz.prog 106 #[CalV P A n c B m d] W (.bool v) := by
  obtain ⟨rfl, rfl, h1, h2, h3, h4⟩ := h
  intro W hW; subst hv; exact valid_any P A B c d S D W (h1.of hW) (h2.of hW) h3 h4
theorem IsCal.refValid (h : IsCal w P A n c B m d S D) {v : Bool} (hv : validB P S D = v) : ∀ W, SinceOf w W → Gives Tryz.prog 119 #[CalV P A n c B m d] W (.bool v) := by
  obtain ⟨rfl, rfl, h1, h2, h3, h4⟩ := h
  intro W hW; subst hv; exact refValid_any P A B c d S D W (h1.of hW) (h2.of hW) h3 h4
theorem IsCal.work (h : IsCal w P A n c B m d S D) (g : GoodCal P S D) : ∀ W, SinceOf w W → ∀ a b, 0 ≤ a → a ≤ b → b ≤ 2000000 → Gives Tryz.prog 74 #[CalV P A n c B m d, .int .i64 a, .int .i64 b] W (.int .i64 (cnt (openI P S D) a (b - a).toNat)) := by
  obtain ⟨rfl, rfl, h1, h2, h3, h4⟩ := h
  intro W hW a b h0 hab hb
  have := work_any P a b A B c d S D W (h1.of hW) (h2.of hW) h3 h4 g.p1 g.p2 h0 hab hb g.s g.d
  rwa [show workI P S D a b = cnt (openI P S D) a (b - a).toNat from by rw [← workI_cnt g.p1 g.s g.d a (b - a).toNat]; congr 1; omega] at this
theorem IsCal.refOpen (h : IsCal w P A n c B m d S D) (g : GoodCal P S D) : ∀ W, SinceOf w W → ∀ t, 0 ≤ t → t ≤ 2000000 → Gives Tryz.prog 84 #[CalV P A n c B m d, .int .i64 t] W (.bool (openI P S D t)) := by
  obtain ⟨rfl, rfl, h1, h2, h3, h4⟩ := h
  intro W hW t h0 ht
  exact refOpen_any P t A B c d S D W (h1.of hW) (h2.of hW) h3 h4 g.p1 g.p2 h0 ht
theorem checked_any (a b : Int) (h : IsCal w P A n c B m d S D) : Gives Tryz.prog 70 #[CalV P A n c B m d, .int .i64 a, .int .i64 b] w (.int .i64 (errI (validB P S D) (checkB a b))) := by
  apply Gives.ret
  cases hv : validB P S D
  · have V := h.valid hv
    clear h hv
    go_enter Tryz.func70, Tryz.ntmps70
    go_wp2_with fail
    refine (V _ Sx).calls.mono ?_
    rintro e _ ⟨rfl, x1, rfl⟩
    go_wp2_with fail
    go_returns
    exact ⟨rfl, Lx⟩
  · have V := h.valid hv
    clear h hv
    cases hc : checkB a b
    · have key : timeB a = false ∨ (timeB a = true ∧ timeB b = false) ∨ (timeB a = true ∧ timeB b = true ∧ decide (b < a) = true) := by
        rw [checkB_not] at hc
        simp only [timeB_iff, timeB_not, decide_eq_true_eq]; omega
      clear hc
      rcases key with h1 | ⟨h1, h2⟩ | ⟨h1, h2, h3⟩
      · go_enter Tryz.func70, Tryz.ntmps70
        go_wp2_with fail
        refine (V _ Sx).calls.mono ?_
        rintro e _ ⟨rfl, x1, rfl⟩
        go_wp2_with fail
        refine (time_any _ _).mono ?_
        rintro e _ ⟨rfl, rfl⟩
        go_wp2_with fail
        go_returns
        exact ⟨rfl, Lx⟩
      all_goals
        go_enter Tryz.func70, Tryz.ntmps70
        go_wp2_with fail
        refine (V _ Sx).calls.mono ?_
        rintro e _ ⟨rfl, x1, rfl⟩
        go_wp2_with fail
        refine (time_any _ _).mono ?_
        rintro e _ ⟨rfl, rfl⟩
        go_wp2_with fail
        refine (time_any _ _).mono ?_
        rintro e _ ⟨rfl, rfl⟩
        go_wp2_with fail
        go_returns
        exact ⟨rfl, Lx⟩
    · have key : timeB a = true ∧ timeB b = true ∧ decide (b < a) = false := by
        rw [checkB_iff] at hc
        simp only [timeB_iff, decide_eq_false_iff_not]; omega
      clear hc
      obtain ⟨h1, h2, h3⟩ := key
      go_enter Tryz.func70, Tryz.ntmps70
      go_wp2_with fail
      refine (V _ Sx).calls.mono ?_
      rintro e _ ⟨rfl, x1, rfl⟩
      go_wp2_with fail
      refine (time_any _ _).mono ?_
      rintro e _ ⟨rfl, rfl⟩
      go_wp2_with fail
      refine (time_any _ _).mono ?_
      rintro e _ ⟨rfl, rfl⟩
      go_wp2_with fail
      go_returns
      exact ⟨rfl, Lx⟩
theorem refCheck_any (a b k : Int) (h : IsCal w P A n c B m d S D) : Gives Tryz.prog 83 #[CalV P A n c B m d, .int .i64 a, .int .i64 b, .int .i64 k] w (.int .i64 (errI (validB P S D) (checkB a b && timeB k))) := by
  apply Gives.ret
  cases hv : validB P S D
  · have V := h.refValid hv
    clear h hv
    go_enter Tryz.func83, Tryz.ntmps83
    go_wp2_with fail
    refine (V _ Sx).calls.mono ?_
    rintro e _ ⟨rfl, x1, rfl⟩
    go_wp2_with fail
    go_returns
    exact ⟨rfl, Lx⟩
  · have V := h.refValid hv
    clear h hv
    have key : (checkB a b && timeB k) = false ∧ (decide (a < 0) = true ∨ (decide (a < 0) = false ∧ decide (1000000 < b) = true) ∨ (decide (a < 0) = false ∧ decide (1000000 < b) = false ∧ decide (b < a) = true) ∨ (decide (a < 0) = false ∧ decide (1000000 < b) = false ∧ decide (b < a) = false ∧ decide (k < 0) = true) ∨
          (decide (a < 0) = false ∧ decide (1000000 < b) = false ∧ decide (b < a) = false ∧ decide (k < 0) = false ∧ decide (1000000 < k) = true)) ∨
        (checkB a b && timeB k) = true ∧ decide (a < 0) = false ∧ decide (1000000 < b) = false ∧ decide (b < a) = false ∧ decide (k < 0) = false ∧ decide (1000000 < k) = false := by
      cases h1 : checkB a b <;> cases h2 : timeB k <;> simp only [checkB_iff, checkB_not, timeB_iff, timeB_not] at h1 h2 <;> simp only [Bool.and_true, Bool.and_false, decide_eq_true_eq, decide_eq_false_iff_not, true_and, Bool.false_eq_true, Bool.true_eq_false, false_and, or_false, false_or] <;> omega
    rcases key with ⟨e, hw⟩ | ⟨e, h1, h2, h3, h4, h5⟩
    · rw [e]
      clear e
      rcases hw with h1 | ⟨h1, h2⟩ | ⟨h1, h2, h3⟩ | ⟨h1, h2, h3, h4⟩ | ⟨h1, h2, h3, h4, h5⟩
      all_goals
        go_enter Tryz.func83, Tryz.ntmps83
        go_wp2_with fail
        refine (V _ Sx).calls.mono ?_
        rintro e _ ⟨rfl, x1, rfl⟩
        go_wp2_with fail
        go_returns
        exact ⟨rfl, Lx⟩
    · rw [e]
      clear e
      go_enter Tryz.func83, Tryz.ntmps83
      go_wp2_with fail
      refine (V _ Sx).calls.mono ?_
      rintro e _ ⟨rfl, x1, rfl⟩
      go_wp2_with fail
      go_returns
      exact ⟨rfl, Lx⟩
end
end Go.Proofs.YtpaojgfmffkodaaGreat
/- Contracts of the calendar: Open, Work, and the reference's Open, Work, Next, Finish, Latest. -/
namespace Go.Proofs.YtpaojgfmffkodaaGreat
set_option linter.unusedVariables false
set_option linter.unusedSimpArgs false
open Go.RowKit
def openV (P : Int) (S D : List (Int × Int)) (t : Int) : Bool := validB P S D && timeB t && openI P S D t
def pairV (x : Int × Int) : Value := .tuple #[.int .i64 x.1, .int .i64 x.2]
def workV (P : Int) (S D : List (Int × Int)) (a b : Int) : Int × Int :=
  if (validB P S D && checkB a b) = true then (cnt (openI P S D) a (b - a).toNat, 0) else (0, errI (validB P S D) (checkB a b))
def foundV (a : Int) (p : Nat → Bool) (n : Nat) : Int × Int := if least p n < n then (a + least p n, 0) else (0, 8)
def nextV (P : Int) (S D : List (Int × Int)) (t : Int) : Int × Int :=
  if (validB P S D && timeB t) = true then foundV t (fun i => openI P S D (t + i)) (1000001 - t).toNat else (0, errI (validB P S D) (timeB t))
def finishV (P : Int) (S D : List (Int × Int)) (t k : Int) : Int × Int :=
  if (validB P S D && (timeB t && timeB k)) = true then foundV t (fun i => decide (k ≤ cnt (openI P S D) t i)) (1000001 - t).toNat else (0, errI (validB P S D) (timeB t && timeB k))
theorem checkB_self (t : Int) : checkB t t = timeB t := by unfold checkB timeB; simp
theorem pair_eq {a b : Int} {x : Int × Int} (h : x = (a, b)) : Ending.returned (.tuple #[.int .i64 a, .int .i64 b]) = .returned (pairV x) := by rw [h]; rfl
section
variable {P : Int} {A B : Option Addr} {n c m d : Nat} {S D : List (Int × Int)} {w : World}
theorem open_any (t : Int) (h : IsCal w P A n c B m d S D) : Gives Tryz.prog 141 #[CalV P A n c B m d, .int .i64 t] w (.bool (openV P S D t)) := by
  apply Gives.ret
  unfold openV
  cases hv : validB P S D
  · have V := h.valid hv
    clear h hv
    go_enter Tryz.func141, Tryz.ntmps141
    go_wp2_with fail
    refine (V _ Sx).calls.mono ?_
    rintro e _ ⟨rfl, x1, rfl⟩
    go_wp2_with fail
    go_returns
    exact ⟨rfl, Lx⟩
  · have V := h.valid hv
    have g := validB_iff.1 hv
    cases ht : timeB t
    · clear h hv
      go_enter Tryz.func141, Tryz.ntmps141
      go_wp2_with fail
      refine (V _ Sx).calls.mono ?_
      rintro e _ ⟨rfl, x1, rfl⟩
      go_wp2_with fail
      refine (time_any _ _).mono ?_
      rintro e _ ⟨rfl, rfl⟩
      go_wp2_with fail
      go_returns
      exact ⟨rfl, Lx⟩
    · obtain ⟨h0, h1⟩ := timeB_iff.1 ht
      have W := fun W hW => h.work g W hW t (t + 1) h0 (by omega) (by omega)
      have e1 : (t + 1 - t).toNat = 1 := by omega
      rw [e1] at W
      simp only [cnt] at W
      rw [show t + ((0 : Nat) : Int) = t from by omega, Int.zero_add] at W
      clear h hv e1 g
      cases ho : openI P S D t
      all_goals
        rw [ho] at W
        clear ho
        simp only [if_true, Bool.false_eq_true, if_false] at W
        go_enter Tryz.func141, Tryz.ntmps141
        go_wp2_with fail
        refine (V _ Sx).calls.mono ?_
        rintro e _ ⟨rfl, x1, rfl⟩
        go_wp2_with fail
        refine (time_any _ _).mono ?_
        rintro e _ ⟨rfl, rfl⟩
        go_wp2_with fail
        refine (W _ Sx).calls.mono ?_
        rintro e _ ⟨rfl, x2, rfl⟩
        go_wp2_with fail
        go_returns
        exact ⟨rfl, Lx⟩
theorem refOpenAt_any (t : Int) (h : IsCal w P A n c B m d S D) : Gives Tryz.prog 120 #[CalV P A n c B m d, .int .i64 t] w (.bool (openV P S D t)) := by
  apply Gives.ret
  unfold openV
  cases hv : validB P S D
  · have V := h.refValid hv
    clear h hv
    go_enter Tryz.func120, Tryz.ntmps120
    go_wp2_with fail
    refine (V _ Sx).calls.mono ?_
    rintro e _ ⟨rfl, x1, rfl⟩
    go_wp2_with fail
    go_returns
    exact ⟨rfl, Lx⟩
  · have V := h.refValid hv
    have g := validB_iff.1 hv
    have key : (timeB t = false ∧ (decide (0 ≤ t) = false ∨ (decide (0 ≤ t) = true ∧ decide (t ≤ 1000000) = false))) ∨ (timeB t = true ∧ decide (0 ≤ t) = true ∧ decide (t ≤ 1000000) = true ∧ 0 ≤ t ∧ t ≤ 1000000) := by
      simp only [timeB_iff, timeB_not, decide_eq_true_eq, decide_eq_false_iff_not]; omega
    have W := h.refOpen g
    clear h hv g
    rcases key with ⟨e, h1 | ⟨h1, h2⟩⟩ | ⟨e, h1, h2, h3, h4⟩
    · rw [e]; clear e
      go_enter Tryz.func120, Tryz.ntmps120
      go_wp2_with fail
      refine (V _ Sx).calls.mono ?_
      rintro e _ ⟨rfl, x1, rfl⟩
      go_wp2_with fail
      go_returns
      exact ⟨rfl, Lx⟩
    · rw [e]; clear e
      go_enter Tryz.func120, Tryz.ntmps120
      go_wp2_with fail
      refine (V _ Sx).calls.mono ?_
      rintro e _ ⟨rfl, x1, rfl⟩
      go_wp2_with fail
      go_returns
      exact ⟨rfl, Lx⟩
    · rw [e]; clear e
      go_enter Tryz.func120, Tryz.ntmps120
      go_wp2_with fail
      refine (V _ Sx).calls.mono ?_
      rintro e _ ⟨rfl, x1, rfl⟩
      go_wp2_with fail
      refine (W _ Sx t h3 (by omega)).calls.mono ?_
      rintro e _ ⟨rfl, x2, rfl⟩
      go_wp2_with fail
      go_returns
      exact ⟨rfl, Lx⟩
theorem work_law (a b : Int) (h : IsCal w P A n c B m d S D) : Gives Tryz.prog 168 #[CalV P A n c B m d, .int .i64 a, .int .i64 b] w (pairV (workV P S D a b)) := by
  apply Gives.ret
  have K := fun W hW => checked_any (w := W) a b (h.of hW)
  unfold workV
  cases hv : validB P S D <;> cases hc : checkB a b
  · rw [hv, hc] at K
    clear h hv hc
    go_enter Tryz.func168, Tryz.ntmps168
    go_wp2_with fail
    refine (K _ Sx).calls.mono ?_
    rintro e _ ⟨rfl, x1, rfl⟩
    simp only [errI, Bool.false_eq_true, if_false]
    go_wp2_with fail
    go_returns
    exact ⟨rfl, Lx⟩
  · rw [hv, hc] at K
    clear h hv hc
    go_enter Tryz.func168, Tryz.ntmps168
    go_wp2_with fail
    refine (K _ Sx).calls.mono ?_
    rintro e _ ⟨rfl, x1, rfl⟩
    simp only [errI, Bool.false_eq_true, if_false, if_true]
    go_wp2_with fail
    go_returns
    exact ⟨rfl, Lx⟩
  · rw [hv, hc] at K
    clear h hv hc
    go_enter Tryz.func168, Tryz.ntmps168
    go_wp2_with fail
    refine (K _ Sx).calls.mono ?_
    rintro e _ ⟨rfl, x1, rfl⟩
    simp only [errI, Bool.false_eq_true, if_false, if_true]
    go_wp2_with fail
    go_returns
    exact ⟨rfl, Lx⟩
  · rw [hv, hc] at K
    have g := validB_iff.1 hv
    obtain ⟨h0, h1, h2⟩ := checkB_iff.1 hc
    have W := fun W hW => h.work g W hW a b h0 h1 (by omega)
    clear h hv hc g
    go_enter Tryz.func168, Tryz.ntmps168
    go_wp2_with fail
    refine (K _ Sx).calls.mono ?_
    rintro e _ ⟨rfl, x1, rfl⟩
    simp only [errI, if_true]
    go_wp2_with fail
    refine (W _ Sx).calls.mono ?_
    rintro e _ ⟨rfl, x2, rfl⟩
    go_wp2_with fail
    go_returns
    exact ⟨rfl, Lx⟩
end
end Go.Proofs.YtpaojgfmffkodaaGreat
/- Contracts of the calendar: the reference's Work, Next, Finish, Latest. -/
namespace Go.Proofs.YtpaojgfmffkodaaGreat
set_option linter.unusedVariables false
set_option linter.unusedSimpArgs false
open Go.RowKit
theorem cnt_next (f : Int → Bool) {a t : Int} (h : a ≤ t) : cnt f a (t + 1 - a).toNat = cnt f a (t - a).toNat + (if f t = true then 1 else 0) := by
  obtain ⟨n, hn⟩ := Int.eq_ofNat_of_zero_le (show 0 ≤ t - a by omega)
  obtain rfl : t = a + n := by omega
  rw [show (a + (n : Int) + 1 - a).toNat = n + 1 from by omega, show (a + (n : Int) - a).toNat = n from by omega]; rfl
theorem found_at {a t : Int} {p : Nat → Bool} {n : Nat} (h1 : a ≤ t) (h2 : (t - a).toNat < n) (h3 : ∀ i, i < (t - a).toNat → p i = false) (h4 : p (t - a).toNat = true) : foundV a p n = (t, 0) := by
  have e := least_is (Nat.le_of_lt h2) h3 (fun _ => h4)
  unfold foundV
  rw [e, if_pos h2]; congr 1; omega
theorem found_none {a : Int} {p : Nat → Bool} {n : Nat} (h3 : ∀ i, i < n → p i = false) : foundV a p n = (0, 8) := by
  have e := least_is (Nat.le_refl n) h3 (fun h => absurd h (Nat.lt_irrefl _))
  unfold foundV
  rw [e, if_neg (Nat.lt_irrefl _)]
section
variable {P : Int} {A B : Option Addr} {n c m d : Nat} {S D : List (Int × Int)} {w : World}
set_option maxHeartbeats 1000000 in
theorem refWork_any (a b : Int) (h : IsCal w P A n c B m d S D) : Gives Tryz.prog 153 #[CalV P A n c B m d, .int .i64 a, .int .i64 b] w (pairV (workV P S D a b)) := by
  apply Gives.ret
  have K := fun W hW => refCheck_any (w := W) a b 0 (h.of hW)
  rw [show timeB 0 = true from rfl, Bool.and_true] at K
  unfold workV
  by_cases hg : (validB P S D && checkB a b) = true
  · rw [if_pos hg]
    rw [Bool.and_eq_true] at hg
    obtain ⟨hv, hc⟩ := hg
    rw [hv, hc] at K
    have g := validB_iff.1 hv
    obtain ⟨h0, h1, h2⟩ := checkB_iff.1 hc
    have W := h.refOpen g
    clear h hv hc g
    go_enter Tryz.func153, Tryz.ntmps153
    go_wp2_with fail
    refine (K _ Sx).calls.mono ?_
    rintro e _ ⟨rfl, x1, rfl⟩
    simp only [errI, if_true]
    go_wp2_with fail
    go_loopg [9, 10] (b - a).toNat (fun g s9 s10 wr => ∃ (t x : Int), a ≤ t ∧ t ≤ b ∧ (b - t).toNat ≤ g ∧ s9 = .int .i64 x ∧ s10 = .int .i64 t ∧ LaterOf x1.wd wr ∧ x = cnt (openI P S D) a (t - a).toNat)
    case atStart => exact ⟨a, 0, Int.le_refl _, h1, Nat.le_refl _, rfl, rfl, Lx, by rw [Int.sub_self]; rfl⟩
    case round =>
      obtain ⟨t, x, ht1, ht2, hg, rfl, rfl, ⟨z, rfl⟩, hx⟩ := hrel
      have hb := cnt_bounds (openI P S D) a (t - a).toNat
      rw [← hx] at hb
      have hb1 : 0 ≤ x ∧ x ≤ 1000000 := by omega
      obtain ⟨hb1, hb2⟩ := hb1
      have E := Lib.hid hx
      clear hx hb
      by_cases hlt : t < b
      · have hn := cnt_next (openI P S D) ht1
        have C := W z.wd Sx t (by omega) (by omega)
        cases ho : openI P S D t
        all_goals
          rw [ho] at hn C
          have HN := Lib.hid hn
          clear hn ho
          go_wp2_with fail
          refine C.calls.mono ?_
          rintro e _ ⟨rfl, x2, rfl⟩
          go_wp2_with fail
          go_roundg (b - (t + 1)).toNat
          case measure => omega
          case rel => exact ⟨t + 1, _, by omega, by omega, Nat.le_refl _, rfl, rfl, Lx, by rw [HN.out, ← E.out]; simp⟩
      · go_wp2_with fail
        go_returns
        refine ⟨?_, Lx⟩
        rw [show b = t from by omega, ← E.out]; rfl
  · rw [if_neg hg]
    have hd : errI (validB P S D) (checkB a b) = 1 ∨ errI (validB P S D) (checkB a b) = 2 := by
      cases hv : validB P S D <;> cases hc : checkB a b <;> simp [hv, hc, errI] at hg ⊢
    clear h hg
    generalize errI (validB P S D) (checkB a b) = q at *
    rcases hd with rfl | rfl
    all_goals
      go_enter Tryz.func153, Tryz.ntmps153
      go_wp2_with fail
      refine (K _ Sx).calls.mono ?_
      rintro e _ ⟨rfl, x1, rfl⟩
      go_wp2_with fail
      go_returns
      exact ⟨rfl, Lx⟩
set_option maxHeartbeats 1000000 in
theorem refNext_any (a : Int) (h : IsCal w P A n c B m d S D) : Gives Tryz.prog 166 #[CalV P A n c B m d, .int .i64 a] w (pairV (nextV P S D a)) := by
  apply Gives.ret
  have K := fun W hW => refCheck_any (w := W) a a 0 (h.of hW)
  rw [show timeB 0 = true from rfl, Bool.and_true, checkB_self] at K
  unfold nextV
  by_cases hg : (validB P S D && timeB a) = true
  · rw [if_pos hg]
    rw [Bool.and_eq_true] at hg
    obtain ⟨hv, hc⟩ := hg
    rw [hv, hc] at K
    have g := validB_iff.1 hv
    obtain ⟨h0, h1⟩ := timeB_iff.1 hc
    have W := h.refOpen g
    clear h hv hc g
    go_enter Tryz.func166, Tryz.ntmps166
    go_wp2_with fail
    refine (K _ Sx).calls.mono ?_
    rintro e _ ⟨rfl, x1, rfl⟩
    simp only [errI, if_true]
    go_wp2_with fail
    go_loopg [1] (1000001 - a).toNat (fun g s1 wr => ∃ (t : Int), a ≤ t ∧ t ≤ 1000001 ∧ (1000001 - t).toNat ≤ g ∧ s1 = .int .i64 t ∧ LaterOf x1.wd wr ∧ ∀ i : Nat, i < (t - a).toNat → openI P S D (a + i) = false)
    case atStart => exact ⟨a, Int.le_refl _, by omega, Nat.le_refl _, rfl, Lx, by intro i hi; omega⟩
    case round =>
      obtain ⟨t, ht1, ht2, hg, rfl, ⟨z, rfl⟩, hx⟩ := hrel
      have E := Lib.hid hx
      clear hx
      by_cases hlt : t < 1000001
      · have C := W z.wd Sx t (by omega) (by omega)
        cases ho : openI P S D t
        · have HO := Lib.hid ho
          rw [ho] at C
          clear ho
          go_wp2_with fail
          refine C.calls.mono ?_
          rintro e _ ⟨rfl, x2, rfl⟩
          go_wp2_with fail
          go_roundg (1000001 - (t + 1)).toNat
          case measure => omega
          case rel =>
            refine ⟨t + 1, by omega, by omega, Nat.le_refl _, rfl, Lx, fun i hi => ?_⟩
            by_cases e : i < (t - a).toNat
            · exact E.out i e
            · rw [show a + (i : Int) = t from by omega]; exact HO.out
        · have HF := Lib.hid (found_at (a := a) (t := t) (p := fun i => openI P S D (a + i)) (n := (1000001 - a).toNat) ht1 (by omega) E.out (by rw [show a + ((t - a).toNat : Int) = t from by omega]; exact ho))
          rw [ho] at C
          clear ho
          go_wp2_with fail
          refine C.calls.mono ?_
          rintro e _ ⟨rfl, x2, rfl⟩
          go_wp2_with fail
          go_returns
          exact ⟨pair_eq HF.out, Lx⟩
      · have HF := Lib.hid (found_none (a := a) (p := fun i => openI P S D (a + i)) (n := (1000001 - a).toNat) (by rw [show (1000001 - a).toNat = (t - a).toNat from by omega]; exact E.out))
        go_wp2_with fail
        go_returns
        exact ⟨pair_eq HF.out, Lx⟩
  · rw [if_neg hg]
    have hd : errI (validB P S D) (timeB a) = 1 ∨ errI (validB P S D) (timeB a) = 2 := by
      cases hv : validB P S D <;> cases hc : timeB a <;> simp [hv, hc, errI] at hg ⊢
    clear h hg
    generalize errI (validB P S D) (timeB a) = q at *
    rcases hd with rfl | rfl
    all_goals
      go_enter Tryz.func166, Tryz.ntmps166
      go_wp2_with fail
      refine (K _ Sx).calls.mono ?_
      rintro e _ ⟨rfl, x1, rfl⟩
      go_wp2_with fail
      go_returns
      exact ⟨rfl, Lx⟩
set_option maxHeartbeats 1000000 in
theorem refFinish_any (a k : Int) (h : IsCal w P A n c B m d S D) : Gives Tryz.prog 46 #[CalV P A n c B m d, .int .i64 a, .int .i64 k] w (pairV (finishV P S D a k)) := by
  apply Gives.ret
  have K := fun W hW => refCheck_any (w := W) a a k (h.of hW)
  rw [checkB_self] at K
  unfold finishV
  by_cases hg : (validB P S D && (timeB a && timeB k)) = true
  · rw [if_pos hg]
    rw [Bool.and_eq_true] at hg
    obtain ⟨hv, hc⟩ := hg
    rw [hv, hc] at K
    rw [Bool.and_eq_true] at hc
    have g := validB_iff.1 hv
    obtain ⟨h0, h1⟩ := timeB_iff.1 hc.1
    obtain ⟨k0, k1⟩ := timeB_iff.1 hc.2
    have W := h.refOpen g
    clear h hv hc g
    go_enter Tryz.func46, Tryz.ntmps46
    go_wp2_with fail
    refine (K _ Sx).calls.mono ?_
    rintro e _ ⟨rfl, x1, rfl⟩
    simp only [errI, if_true]
    go_wp2_with fail
    go_loopg [2, 9] (1000001 - a).toNat (fun g s2 s9 wr => ∃ (t y : Int), a ≤ t ∧ t ≤ 1000001 ∧ 0 ≤ y ∧ y ≤ 1000000 ∧ (1000001 - t).toNat ≤ g ∧ s2 = .int .i64 y ∧ s9 = .int .i64 t ∧ LaterOf x1.wd wr ∧ y = k - cnt (openI P S D) a (t - a).toNat ∧ ∀ i : Nat, i < (t - a).toNat → decide (k ≤ cnt (openI P S D) a i) = false)
    case atStart => exact ⟨a, k, Int.le_refl _, by omega, k0, k1, Nat.le_refl _, rfl, rfl, Lx, by rw [Int.sub_self]; simp [cnt], by intro i hi; omega⟩
    case round =>
      obtain ⟨t, y, ht1, ht2, y0, y1, hg, rfl, rfl, ⟨z, rfl⟩, hy, hx⟩ := hrel
      have E := Lib.hid (And.intro hy hx)
      clear hx hy
      by_cases hlt : t < 1000001
      · by_cases hz : y = 0
        · have HF := Lib.hid (found_at (a := a) (t := t) (p := fun i => decide (k ≤ cnt (openI P S D) a i)) (n := (1000001 - a).toNat) ht1 (by omega) E.out.2 (by have := E.out.1; simp; omega))
          subst hz
          go_wp2_with fail
          go_returns
          exact ⟨pair_eq HF.out, Lx⟩
        · have hzb : (y == 0) = false := by rw [beq_eq_false_iff_ne]; exact hz
          have y2 : 1 ≤ y := by omega
          have hn := cnt_next (openI P S D) ht1
          have C := W z.wd Sx t (by omega) (by omega)
          cases ho : openI P S D t
          all_goals
            rw [ho] at hn C
            have HN := Lib.hid hn
            have HZ := Lib.hid hz
            clear hn ho hz
            go_wp2_with fail
            refine C.calls.mono ?_
            rintro e _ ⟨rfl, x2, rfl⟩
            go_wp2_with fail
            go_roundg (1000001 - (t + 1)).toNat
            case measure => omega
            case rel =>
              have e1 := E.out.1
              have e2 := HN.out
              simp only [Bool.false_eq_true, if_false, if_true] at e2
              refine ⟨t + 1, _, by omega, by omega, ?_, ?_, Nat.le_refl _, rfl, rfl, Lx, ?_, fun i hi => ?_⟩
              · omega
              · omega
              · omega
              · by_cases e : i < (t - a).toNat
                · exact E.out.2 i e
                · rw [show i = (t - a).toNat from by omega]; simp; omega
      · have HF := Lib.hid (found_none (a := a) (p := fun i => decide (k ≤ cnt (openI P S D) a i)) (n := (1000001 - a).toNat) (by rw [show (1000001 - a).toNat = (t - a).toNat from by omega]; exact E.out.2))
        go_wp2_with fail
        go_returns
        exact ⟨pair_eq HF.out, Lx⟩
  · rw [if_neg hg]
    have hd : errI (validB P S D) (timeB a && timeB k) = 1 ∨ errI (validB P S D) (timeB a && timeB k) = 2 := by
      cases hv : validB P S D <;> cases hc : (timeB a && timeB k) <;> simp only [errI, Bool.false_eq_true, if_false, if_true, or_true, true_or] <;> simp [hv, hc] at hg
    clear h hg
    generalize errI (validB P S D) (timeB a && timeB k) = q at *
    rcases hd with rfl | rfl
    all_goals
      go_enter Tryz.func46, Tryz.ntmps46
      go_wp2_with fail
      refine (K _ Sx).calls.mono ?_
      rintro e _ ⟨rfl, x1, rfl⟩
      go_wp2_with fail
      go_returns
      exact ⟨rfl, Lx⟩
end
end Go.Proofs.YtpaojgfmffkodaaGreat
/- sort.Search as a contract of this seat: the least place; and the calendar's Next, Finish, Latest. -/
namespace Go.Proofs.YtpaojgfmffkodaaGreat
set_option linter.unusedVariables false
set_option linter.unusedSimpArgs false
open Go.RowKit Go.Sort
theorem grow_of_later {w : World} (x : Later w) : ∃ q os', x.wd = grow (w.drewN q) os' := by
  refine ⟨x.wd.drawn - w.drawn, x.wd.heap.extract w.heap.size x.wd.heap.size, ?_⟩
  obtain ⟨wd, hb, hd⟩ := x
  have hh : wd.heap = w.heap ++ wd.heap.extract w.heap.size wd.heap.size := by
    apply Array.ext_getElem?
    intro i
    by_cases hi : i < w.heap.size
    · rw [Array.getElem?_append_left hi]; exact hb.block i hi
    · rw [Array.getElem?_append_right (by omega)]
      have := hb.size
      simp only [Array.getElem?_extract]
      by_cases hi2 : i < wd.heap.size
      · simp; rw [show w.heap.size + (i - w.heap.size) = i from by omega, if_pos (by omega)]
      · simp [Array.getElem?_eq_none (Nat.le_of_not_lt hi2)]; omega
  show wd = grow (w.drewN (wd.drawn - w.drawn)) (wd.heap.extract w.heap.size wd.heap.size)
  have h1 := hb.os
  have h2 := hb.tape
  have h3 := hb.output
  have h4 : wd.drawn = w.drawn + (wd.drawn - w.drawn) := by have : w.drawn ≤ wd.drawn := hd; omega
  obtain ⟨heap, tape, drawn, os, output⟩ := wd
  simp only [grow, World.drewN] at *
  subst h1 h2 h3
  rw [← hh, ← h4]
theorem later_of_grow (w : World) (q : Nat) (os : Array Obj) : LaterOf w (grow (w.drewN q) os) := by
  refine ⟨⟨grow (w.drewN q) os, ⟨rfl, rfl, rfl, by simp [grow, World.drewN], fun i hi => by simp [grow, World.drewN, Array.getElem?_append_left hi]⟩, by simp [grow, World.drewN]⟩, rfl⟩
theorem search_any (g : Nat) (cb : Array Value) (n : Nat) (p : Nat → Bool) (w : World) (eg : ∀ args w, (callFunc g args).run Tryz.prog w = .ok (.enter g args) w) (hsz : n < 4611686018427387904)
    (hf : ∀ W, LaterOf w W → ∀ i : Nat, i < n → Gives Tryz.prog g (#[.int .i64 i] ++ cb) W (.bool (p i))) (hmono : ∀ a b, a ≤ b → b < n → p a = true → p b = true) :
    Gives Tryz.prog 72 #[.int .i64 n, .func (.func g) #[] cb] w (.int .i64 (least p n)) := by
  have h := Any.sort_Search (P := Tryz.prog) Tryz.search g cb n p w eg hsz (fun m os i hi => Calls.mono (hf _ (later_of_grow w m os) i hi) fun e w' ⟨he, x, hx⟩ => ⟨he, by rw [hx]; exact grow_of_later x⟩) hmono
  change Calls Tryz.prog 72 _ _ _ at h
  refine Calls.mono h fun e w' ⟨he, q, os, hw⟩ => ⟨by rw [he, least_count hmono], by rw [hw]; exact later_of_grow w q os⟩
section
variable {P : Int} {A B : Option Addr} {n c m d : Nat} {S D : List (Int × Int)} {w : World}
theorem nextFn_any (t : Int) (i : Nat) (b1 b2 : Nat) (h : IsCal w P A n c B m d S D) (g : GoodCal P S D) (h0 : 0 ≤ t) (h1 : t + i ≤ 1000000)
    (k0 : w.cell? ⟨b1, 0, none⟩ = some (.int .i64 P)) (k1 : w.cell? ⟨b1, 1, none⟩ = some (.slice A n c)) (k2 : w.cell? ⟨b1, 2, none⟩ = some (.slice B m d)) (k3 : w.cell? ⟨b2, 0, none⟩ = some (.int .i64 t)) :
    Gives Tryz.prog 176 #[.int .i64 i, .pointer (some ⟨b1, 0, none⟩), .pointer (some ⟨b2, 0, none⟩)] w (.bool (decide (0 < cnt (openI P S D) t (i + 1)))) := by
  apply Gives.ret
  have W := h.work g w (SinceOf.refl w) t (t + i + 1) h0 (by omega) (by omega)
  rw [show (t + (i : Int) + 1 - t).toNat = i + 1 from by omega] at W
  generalize cnt (openI P S D) t (i + 1) = q at *
  clear h g
  go_enter Tryz.func176, Tryz.ntmps176
  go_wp2_with fail
  refine W.calls.mono ?_
  rintro e _ ⟨rfl, x1, rfl⟩
  go_wp2_with fail
  go_returns
  exact ⟨rfl, Lx⟩
theorem finishFn_any (t k : Int) (i : Nat) (b1 b2 b3 : Nat) (h : IsCal w P A n c B m d S D) (g : GoodCal P S D) (h0 : 0 ≤ t) (h1 : t + i ≤ 1000000)
    (k0 : w.cell? ⟨b1, 0, none⟩ = some (.int .i64 P)) (k1 : w.cell? ⟨b1, 1, none⟩ = some (.slice A n c)) (k2 : w.cell? ⟨b1, 2, none⟩ = some (.slice B m d)) (k3 : w.cell? ⟨b2, 0, none⟩ = some (.int .i64 t)) (k4 : w.cell? ⟨b3, 0, none⟩ = some (.int .i64 k))
    (o1 : Nonempty (Old w b1)) (o2 : Nonempty (Old w b2)) (o3 : Nonempty (Old w b3)) :
    Gives Tryz.prog 73 #[.int .i64 i, .pointer (some ⟨b1, 0, none⟩), .pointer (some ⟨b2, 0, none⟩), .pointer (some ⟨b3, 0, none⟩)] w (.bool (decide (k ≤ cnt (openI P S D) t i))) := by
  apply Gives.ret
  have W := fun W hW => h.work g W hW t (t + i) h0 (by omega) (by omega)
  rw [show (t + (i : Int) - t).toNat = i from by omega] at W
  generalize cnt (openI P S D) t i = q at *
  clear h g
  go_enter Tryz.func73, Tryz.ntmps73
  go_wp2_with fail
  refine region_later (by kernel_rfl) (by kernel_rfl) ?_
  repeat (go_big_quiet_step ((exact Gives.later (W _ Sx))))
  refine wpQuiet_nil ?_
  rintro _ ⟨x1, rfl⟩
  go_wp2_with fail
  go_returns
  exact ⟨rfl, Lx⟩
end
end Go.Proofs.YtpaojgfmffkodaaGreat
/- The calendar's Next, Finish, Latest. -/
namespace Go.Proofs.YtpaojgfmffkodaaGreat
set_option linter.unusedVariables false
set_option linter.unusedSimpArgs false
open Go.RowKit Go.Sort
section
variable {P : Int} {A B : Option Addr} {n c m d : Nat} {S D : List (Int × Int)} {w : World}
set_option maxRecDepth 100000 in
set_option maxHeartbeats 1000000 in
theorem next_any (t : Int) (h : IsCal w P A n c B m d S D) : Gives Tryz.prog 161 #[CalV P A n c B m d, .int .i64 t] w (pairV (nextV P S D t)) := by
  apply Gives.ret
  unfold nextV
  cases hv : validB P S D
  · have V := h.valid hv
    clear h hv
    go_enter Tryz.func161, Tryz.ntmps161
    go_wp2_with fail
    refine (V _ Sx).calls.mono ?_
    rintro e _ ⟨rfl, x1, rfl⟩
    go_wp2_with fail
    go_returns
    exact ⟨rfl, Lx⟩
  · have V := h.valid hv
    have g := validB_iff.1 hv
    clear hv
    cases ht : timeB t
    · clear h
      go_enter Tryz.func161, Tryz.ntmps161
      go_wp2_with fail
      refine (V _ Sx).calls.mono ?_
      rintro e _ ⟨rfl, x1, rfl⟩
      go_wp2_with fail
      refine (time_any _ _).mono ?_
      rintro e _ ⟨rfl, rfl⟩
      go_wp2_with fail
      go_returns
      exact ⟨rfl, Lx⟩
    · rw [show (true && true) = true from rfl, if_pos rfl]
      obtain ⟨h0, h1⟩ := timeB_iff.1 ht
      have hsz : (1000001 - t).toNat < 4611686018427387904 := by omega
      have hsp := least_spec (fun i => openI P S D (t + i)) (1000001 - t).toNat
      have HS := Lib.hid (show foundV t (fun i => openI P S D (t + i)) (1000001 - t).toNat = if least (fun i => openI P S D (t + i)) (1000001 - t).toNat < (1000001 - t).toNat then (t + least (fun i => openI P S D (t + i)) (1000001 - t).toNat, 0) else (0, 8) from rfl)
      have hle := hsp.1
      clear hsp
      have hN : (1000000 - t + 1 : Int) = ((1000001 - t).toNat : Int) := by omega
      have HN := Lib.hid hN
      clear hN
      have eg : ∀ args w, (callFunc 176 args).run Tryz.prog w = .ok (.enter 176 args) w := enters_of Tryz.func176 (by kernel_rfl) rfl
      have SR : ∀ (W : World), (∀ W', LaterOf W W' → ∀ i : Nat, i < (1000001 - t).toNat → Gives Tryz.prog 176 (#[.int .i64 i] ++ #[.pointer (some ⟨w.heap.size, 0, none⟩), .pointer (some ⟨w.heap.size + 1, 0, none⟩)]) W' (.bool (decide (0 < cnt (openI P S D) t (i + 1))))) →
          Gives Tryz.prog 72 #[.int .i64 (1000001 - t).toNat, .func (.func 176) #[] #[.pointer (some ⟨w.heap.size, 0, none⟩), .pointer (some ⟨w.heap.size + 1, 0, none⟩)]] W (.int .i64 (least (fun i => decide (0 < cnt (openI P S D) t (i + 1))) (1000001 - t).toNat)) := by
        intro W hf
        generalize (1000001 - t).toNat = N at *
        refine search_any 176 #[.pointer (some ⟨w.heap.size, 0, none⟩), .pointer (some ⟨w.heap.size + 1, 0, none⟩)] N (fun i => decide (0 < cnt (openI P S D) t (i + 1))) W eg hsz hf ?_
        intro a b hab hb hp
        have := cnt_mono (openI P S D) t (a + 1) (b + 1) (by omega)
        simp only [decide_eq_true_eq] at hp ⊢; omega
      rw [least_open] at SR
      generalize hr : least (fun i => openI P S D (t + i)) (1000001 - t).toNat = r at *
      clear hr
      have H := Lib.hid (And.intro h g)
      have HSR := Lib.hid SR
      clear h g SR eg
      go_enter Tryz.func161, Tryz.ntmps161
      go_wp2_with fail
      refine (V _ Sx).calls.mono ?_
      rintro e _ ⟨rfl, x1, rfl⟩
      go_wp2_with fail
      refine (time_any _ _).mono ?_
      rintro e _ ⟨rfl, rfl⟩
      go_wp2_with fail
      rw [HN.out]
      refine (HSR.out _ ?_).calls.mono ?_
      · rintro _ ⟨z, rfl⟩ i hi
        exact nextFn_any t i _ _ (H.out.1.of Sx) H.out.2 h0 (by omega) (by simp [go_sem]) (by simp [go_sem]) (by simp [go_sem]) (by simp [go_sem])
      · rintro e _ ⟨rfl, x2, rfl⟩
        by_cases hfound : r < (1000001 - t).toNat
        · have hb : t + (r : Int) ≤ 1000000 := by omega
          have HF := Lib.hid hfound
          clear hfound
          go_wp2_with fail
          go_returns
          exact ⟨pair_eq (by rw [HS.out, if_pos HF.out]), Lx⟩
        · have hb : 1000000 < t + (r : Int) := by omega
          have HF := Lib.hid hfound
          clear hfound
          go_wp2_with fail
          go_returns
          exact ⟨pair_eq (by rw [HS.out, if_neg HF.out]), Lx⟩
set_option maxRecDepth 100000 in
set_option maxHeartbeats 1000000 in
theorem finish_any (t k : Int) (h : IsCal w P A n c B m d S D) : Gives Tryz.prog 34 #[CalV P A n c B m d, .int .i64 t, .int .i64 k] w (pairV (finishV P S D t k)) := by
  apply Gives.ret
  have K := fun W hW => checked_any (w := W) t t (h.of hW)
  rw [checkB_self] at K
  unfold finishV
  by_cases hg : (validB P S D && timeB t) = true
  · rw [Bool.and_eq_true] at hg
    obtain ⟨hv, ht⟩ := hg
    rw [hv, ht] at K
    have g := validB_iff.1 hv
    rw [hv, ht]
    clear hv
    cases hk : timeB k
    · clear h g ht
      rw [show (true && (true && false)) = false from rfl, if_neg (by decide)]
      go_enter Tryz.func34, Tryz.ntmps34
      go_wp2_with fail
      refine (K _ Sx).calls.mono ?_
      rintro e _ ⟨rfl, x1, rfl⟩
      simp only [errI, if_true]
      go_wp2_with fail
      refine (time_any _ _).mono ?_
      rintro e _ ⟨rfl, rfl⟩
      go_wp2_with fail
      go_returns
      exact ⟨rfl, Lx⟩
    · rw [show (true && (true && true)) = true from rfl, if_pos rfl]
      obtain ⟨h0, h1⟩ := timeB_iff.1 ht
      obtain ⟨k0, k1⟩ := timeB_iff.1 hk
      have hsz : (1000001 - t).toNat < 4611686018427387904 := by omega
      have hsp := least_spec (fun i => decide (k ≤ cnt (openI P S D) t i)) (1000001 - t).toNat
      have HS := Lib.hid (show foundV t (fun i => decide (k ≤ cnt (openI P S D) t i)) (1000001 - t).toNat = if least (fun i => decide (k ≤ cnt (openI P S D) t i)) (1000001 - t).toNat < (1000001 - t).toNat then (t + least (fun i => decide (k ≤ cnt (openI P S D) t i)) (1000001 - t).toNat, 0) else (0, 8) from rfl)
      have hle := hsp.1
      clear hsp
      have hN : (1000000 - t + 1 : Int) = ((1000001 - t).toNat : Int) := by omega
      have HN := Lib.hid hN
      clear hN
      have eg : ∀ args w, (callFunc 73 args).run Tryz.prog w = .ok (.enter 73 args) w := enters_of Tryz.func73 (by kernel_rfl) rfl
      have SR : ∀ (W : World), (∀ W', LaterOf W W' → ∀ i : Nat, i < (1000001 - t).toNat → Gives Tryz.prog 73 (#[.int .i64 i] ++ #[.pointer (some ⟨w.heap.size, 0, none⟩), .pointer (some ⟨w.heap.size + 1, 0, none⟩), .pointer (some ⟨w.heap.size + 1 + 1, 0, none⟩)]) W' (.bool (decide (k ≤ cnt (openI P S D) t i)))) →
          Gives Tryz.prog 72 #[.int .i64 (1000001 - t).toNat, .func (.func 73) #[] #[.pointer (some ⟨w.heap.size, 0, none⟩), .pointer (some ⟨w.heap.size + 1, 0, none⟩), .pointer (some ⟨w.heap.size + 1 + 1, 0, none⟩)]] W (.int .i64 (least (fun i => decide (k ≤ cnt (openI P S D) t i)) (1000001 - t).toNat)) := by
        intro W hf
        have hN2 : ((1000001 - t).toNat : Int) = (1000001 - t) := by omega
        generalize (1000001 - t).toNat = N at *
        refine search_any 73 #[.pointer (some ⟨w.heap.size, 0, none⟩), .pointer (some ⟨w.heap.size + 1, 0, none⟩), .pointer (some ⟨w.heap.size + 1 + 1, 0, none⟩)] N (fun i => decide (k ≤ cnt (openI P S D) t i)) W eg hsz hf ?_
        intro a b hab hb hp
        have := cnt_mono (openI P S D) t a b hab
        simp only [decide_eq_true_eq] at hp ⊢; omega
      generalize hr : least (fun i => decide (k ≤ cnt (openI P S D) t i)) (1000001 - t).toNat = r at *
      clear hr
      have H := Lib.hid (And.intro h g)
      have HSR := Lib.hid SR
      clear h g SR eg
      go_enter Tryz.func34, Tryz.ntmps34
      go_wp2_with fail
      refine (K _ Sx).calls.mono ?_
      rintro e _ ⟨rfl, x1, rfl⟩
      simp only [errI, if_true]
      go_wp2_with fail
      refine (time_any _ _).mono ?_
      rintro e _ ⟨rfl, rfl⟩
      go_wp2_with fail
      rw [HN.out]
      refine (HSR.out _ ?_).calls.mono ?_
      · rintro _ ⟨z, rfl⟩ i hi
        exact finishFn_any t k i _ _ _ (H.out.1.of Sx) H.out.2 h0 (by omega) (by simp [go_sem]) (by simp [go_sem]) (by simp [go_sem]) (by simp [go_sem]) (by simp [go_sem]) inferInstance inferInstance inferInstance
      · rintro e _ ⟨rfl, x2, rfl⟩
        by_cases hfound : r < (1000001 - t).toNat
        · have hb : t + (r : Int) ≤ 1000000 := by omega
          have HF := Lib.hid hfound
          clear hfound
          go_wp2_with fail
          go_returns
          exact ⟨pair_eq (by rw [HS.out, if_pos HF.out]), Lx⟩
        · have hb : 1000000 < t + (r : Int) := by omega
          have HF := Lib.hid hfound
          clear hfound
          go_wp2_with fail
          go_returns
          exact ⟨pair_eq (by rw [HS.out, if_neg HF.out]), Lx⟩
  · have e0 : (validB P S D && (timeB t && timeB k)) = false := by
      cases hv : validB P S D <;> cases hc : timeB t <;> simp [hv, hc] at hg ⊢
    have hd : errI (validB P S D) (timeB t && timeB k) = errI (validB P S D) (timeB t) ∧ (errI (validB P S D) (timeB t) = 1 ∨ errI (validB P S D) (timeB t) = 2) := by
      cases hv : validB P S D <;> cases hc : timeB t <;> simp [hv, hc, errI] at hg ⊢
    rw [e0, hd.1]
    have hd := hd.2
    clear h hg e0
    generalize errI (validB P S D) (timeB t) = q at *
    rw [if_neg (by decide)]
    rcases hd with rfl | rfl
    all_goals
      go_enter Tryz.func34, Tryz.ntmps34
      go_wp2_with fail
      refine (K _ Sx).calls.mono ?_
      rintro e _ ⟨rfl, x1, rfl⟩
      go_wp2_with fail
      go_returns
      exact ⟨rfl, Lx⟩
end
end Go.Proofs.YtpaojgfmffkodaaGreat
/- Plain law of the calendar: what the laws say of finishing times. -/
namespace Go.Proofs.YtpaojgfmffkodaaGreat
set_option linter.unusedVariables false
set_option linter.unusedSimpArgs false
theorem finishV_eq {P : Int} {S D : List (Int × Int)} {t k : Int} (hv : validB P S D = true) (ht : timeB t = true) (hk : timeB k = true) : finishV P S D t k = foundV t (fun i => decide (k ≤ cnt (openI P S D) t i)) (1000001 - t).toNat := by
  unfold finishV; rw [hv, ht, hk]; rfl
theorem workV_eq {P : Int} {S D : List (Int × Int)} {a b : Int} (hv : validB P S D = true) (hc : checkB a b = true) : workV P S D a b = (cnt (openI P S D) a (b - a).toNat, 0) := by
  unfold workV; rw [hv, hc]; rfl
theorem nextV_eq {P : Int} {S D : List (Int × Int)} {t : Int} (hv : validB P S D = true) (ht : timeB t = true) : nextV P S D t = foundV t (fun i => openI P S D (t + i)) (1000001 - t).toNat := by
  unfold nextV; rw [hv, ht]; rfl
end Go.Proofs.YtpaojgfmffkodaaGreat
