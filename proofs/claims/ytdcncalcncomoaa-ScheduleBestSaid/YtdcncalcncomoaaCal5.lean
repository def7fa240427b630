/- Contracts of the calendar: checked, Open, Work, and the reference's check, Open, Work, Next, Finish, Latest. -/
import Derived.Test.YtdcncalcncomoaaCal2
namespace Go.Proofs.Ytdcncalcncomoaa
open Go.RowKit
set_option linter.unusedVariables false

/-- A calendar in memory. -/
structure IsCal (w : World) (P : Int) (A : Option Addr) (n c : Nat) (B : Option Addr) (m d : Nat) (S D : List (Int × Int)) : Prop where
  n : n = S.length
  m : m = D.length
  s : IsIvs w A c S
  d : IsIvs w B d D
  ns : S.length < 4611686018427387904
  nd : D.length < 4611686018427387904
theorem IsCal.of {w w' : World} {P : Int} {A B : Option Addr} {n c m d : Nat} {S D : List (Int × Int)} (h : IsCal w P A n c B m d S D) (hs : SinceOf w w') : IsCal w' P A n c B m d S D :=
  ⟨h.n, h.m, h.s.of hs, h.d.of hs, h.ns, h.nd⟩
def checkB (a b : Int) : Bool := decide (0 ≤ a) && decide (a ≤ b) && decide (b ≤ 1000000)
def errI (v c : Bool) : Int := if v = true then (if c = true then 0 else 2) else 1
structure GoodCal (P : Int) (S D : List (Int × Int)) : Prop where
  p1 : 1 ≤ P
  p2 : P ≤ 10000
  s : ascI P (-1) S = true
  d : ascI 1000000 (-1) D = true
  s20 : S.length ≤ 20
  d20 : D.length ≤ 20
theorem validB_iff {P : Int} {S D : List (Int × Int)} : validB P S D = true ↔ GoodCal P S D := by
  unfold validB spansB
  simp only [Bool.and_eq_true, decide_eq_true_eq]
  constructor
  · rintro ⟨⟨⟨h1, h2⟩, h3, h4⟩, h5, h6⟩; exact ⟨h1, h2, h3, h5, by omega, by omega⟩
  · rintro ⟨h1, h2, h3, h5, h4, h6⟩; exact ⟨⟨⟨h1, h2⟩, h3, by omega⟩, h5, by omega⟩
theorem checkB_iff {a b : Int} : checkB a b = true ↔ 0 ≤ a ∧ a ≤ b ∧ b ≤ 1000000 := by unfold checkB; simp [and_assoc]
theorem timeB_iff {a : Int} : timeB a = true ↔ 0 ≤ a ∧ a ≤ 1000000 := by unfold timeB; simp
theorem timeB_not {a : Int} : timeB a = false ↔ ¬ (0 ≤ a ∧ a ≤ 1000000) := by rw [← timeB_iff, Bool.not_eq_true]
theorem checkB_not {a b : Int} : checkB a b = false ↔ ¬ (0 ≤ a ∧ a ≤ b ∧ b ≤ 1000000) := by rw [← checkB_iff, Bool.not_eq_true]

section
variable {P : Int} {A B : Option Addr} {n c m d : Nat} {S D : List (Int × Int)} {w : World}
theorem IsCal.valid (h : IsCal w P A n c B m d S D) {v : Bool} (hv : validB P S D = v) : ∀ W, SinceOf w W → Gives Try.prog 67 #[CalV P A n c B m d] W (.bool v) := by
  obtain ⟨rfl, rfl, h1, h2, h3, h4⟩ := h
  intro W hW; subst hv; exact valid_any P A B c d S D W (h1.of hW) (h2.of hW) h3 h4
theorem IsCal.refValid (h : IsCal w P A n c B m d S D) {v : Bool} (hv : validB P S D = v) : ∀ W, SinceOf w W → Gives Try.prog 57 #[CalV P A n c B m d] W (.bool v) := by
  obtain ⟨rfl, rfl, h1, h2, h3, h4⟩ := h
  intro W hW; subst hv; exact refValid_any P A B c d S D W (h1.of hW) (h2.of hW) h3 h4
theorem IsCal.work (h : IsCal w P A n c B m d S D) (g : GoodCal P S D) : ∀ W, SinceOf w W → ∀ a b, 0 ≤ a → a ≤ b → b ≤ 2000000 → Gives Try.prog 94 #[CalV P A n c B m d, .int .i64 a, .int .i64 b] W (.int .i64 (cnt (openI P S D) a (b - a).toNat)) := by
  obtain ⟨rfl, rfl, h1, h2, h3, h4⟩ := h
  intro W hW a b h0 hab hb
  have := work_any P a b A B c d S D W (h1.of hW) (h2.of hW) h3 h4 g.p1 g.p2 h0 hab hb g.s g.d
  rwa [show workI P S D a b = cnt (openI P S D) a (b - a).toNat from by rw [← workI_cnt g.p1 g.s g.d a (b - a).toNat]; congr 1; omega] at this
theorem IsCal.refOpen (h : IsCal w P A n c B m d S D) (g : GoodCal P S D) : ∀ W, SinceOf w W → ∀ t, 0 ≤ t → t ≤ 2000000 → Gives Try.prog 39 #[CalV P A n c B m d, .int .i64 t] W (.bool (openI P S D t)) := by
  obtain ⟨rfl, rfl, h1, h2, h3, h4⟩ := h
  intro W hW t h0 ht
  exact refOpen_any P t A B c d S D W (h1.of hW) (h2.of hW) h3 h4 g.p1 g.p2 h0 ht

theorem checked_any (a b : Int) (h : IsCal w P A n c B m d S D) : Gives Try.prog 95 #[CalV P A n c B m d, .int .i64 a, .int .i64 b] w (.int .i64 (errI (validB P S D) (checkB a b))) := by
  apply Gives.ret
  cases hv : validB P S D
  · have V := h.valid hv
    clear h hv
    go_enter Try.func95, Try.ntmps95
    go_wp2_with fail
    refine (V _ (by (repeat (first | (with_reducible exact SinceOf.refl _) | (with_reducible assumption) | (with_reducible refine SinceOf.alloc ?_ _) | (with_reducible refine SinceOf.drew ?_) | (with_reducible refine SinceOf.drewN ?_ _) | (with_reducible refine SinceOf.later ?_ _) | (with_reducible refine SinceOf.further ?_ _) | (with_reducible refine SinceOf.setCell ?_ (by first | exact Nat.le_refl _ | (simp; done) | omega | (simp; omega)) _))))).calls.mono ?_
    rintro e _ ⟨rfl, x1, rfl⟩
    go_wp2_with fail
    go_returns
    exact ⟨rfl, by (repeat (first | (with_reducible exact LaterOf.refl _) | (with_reducible refine LaterOf.alloc ?_ _) | (with_reducible refine LaterOf.drew ?_) | (with_reducible refine LaterOf.drewN ?_ _) | (with_reducible refine LaterOf.later ?_ _) | (with_reducible refine LaterOf.setCell ?_ (by first | exact Nat.le_refl _ | (simp; done) | omega | (simp; omega)) _)))⟩
  · have V := h.valid hv
    clear h hv
    cases hc : checkB a b
    · have key : timeB a = false ∨ (timeB a = true ∧ timeB b = false) ∨ (timeB a = true ∧ timeB b = true ∧ decide (b < a) = true) := by
        rw [checkB_not] at hc
        simp only [timeB_iff, timeB_not, decide_eq_true_eq]; omega
      clear hc
      rcases key with h1 | ⟨h1, h2⟩ | ⟨h1, h2, h3⟩
      · go_enter Try.func95, Try.ntmps95
        go_wp2_with fail
        refine (V _ (by (repeat (first | (with_reducible exact SinceOf.refl _) | (with_reducible assumption) | (with_reducible refine SinceOf.alloc ?_ _) | (with_reducible refine SinceOf.drew ?_) | (with_reducible refine SinceOf.drewN ?_ _) | (with_reducible refine SinceOf.later ?_ _) | (with_reducible refine SinceOf.further ?_ _) | (with_reducible refine SinceOf.setCell ?_ (by first | exact Nat.le_refl _ | (simp; done) | omega | (simp; omega)) _))))).calls.mono ?_
        rintro e _ ⟨rfl, x1, rfl⟩
        go_wp2_with fail
        refine (time_any _ _).mono ?_
        rintro e _ ⟨rfl, rfl⟩
        go_wp2_with fail
        go_returns
        exact ⟨rfl, by (repeat (first | (with_reducible exact LaterOf.refl _) | (with_reducible refine LaterOf.alloc ?_ _) | (with_reducible refine LaterOf.drew ?_) | (with_reducible refine LaterOf.drewN ?_ _) | (with_reducible refine LaterOf.later ?_ _) | (with_reducible refine LaterOf.setCell ?_ (by first | exact Nat.le_refl _ | (simp; done) | omega | (simp; omega)) _)))⟩
      all_goals
        go_enter Try.func95, Try.ntmps95
        go_wp2_with fail
        refine (V _ (by (repeat (first | (with_reducible exact SinceOf.refl _) | (with_reducible assumption) | (with_reducible refine SinceOf.alloc ?_ _) | (with_reducible refine SinceOf.drew ?_) | (with_reducible refine SinceOf.drewN ?_ _) | (with_reducible refine SinceOf.later ?_ _) | (with_reducible refine SinceOf.further ?_ _) | (with_reducible refine SinceOf.setCell ?_ (by first | exact Nat.le_refl _ | (simp; done) | omega | (simp; omega)) _))))).calls.mono ?_
        rintro e _ ⟨rfl, x1, rfl⟩
        go_wp2_with fail
        refine (time_any _ _).mono ?_
        rintro e _ ⟨rfl, rfl⟩
        go_wp2_with fail
        refine (time_any _ _).mono ?_
        rintro e _ ⟨rfl, rfl⟩
        go_wp2_with fail
        go_returns
        exact ⟨rfl, by (repeat (first | (with_reducible exact LaterOf.refl _) | (with_reducible refine LaterOf.alloc ?_ _) | (with_reducible refine LaterOf.drew ?_) | (with_reducible refine LaterOf.drewN ?_ _) | (with_reducible refine LaterOf.later ?_ _) | (with_reducible refine LaterOf.setCell ?_ (by first | exact Nat.le_refl _ | (simp; done) | omega | (simp; omega)) _)))⟩
    · have key : timeB a = true ∧ timeB b = true ∧ decide (b < a) = false := by
        rw [checkB_iff] at hc
        simp only [timeB_iff, decide_eq_false_iff_not]; omega
      clear hc
      obtain ⟨h1, h2, h3⟩ := key
      go_enter Try.func95, Try.ntmps95
      go_wp2_with fail
      refine (V _ (by (repeat (first | (with_reducible exact SinceOf.refl _) | (with_reducible assumption) | (with_reducible refine SinceOf.alloc ?_ _) | (with_reducible refine SinceOf.drew ?_) | (with_reducible refine SinceOf.drewN ?_ _) | (with_reducible refine SinceOf.later ?_ _) | (with_reducible refine SinceOf.further ?_ _) | (with_reducible refine SinceOf.setCell ?_ (by first | exact Nat.le_refl _ | (simp; done) | omega | (simp; omega)) _))))).calls.mono ?_
      rintro e _ ⟨rfl, x1, rfl⟩
      go_wp2_with fail
      refine (time_any _ _).mono ?_
      rintro e _ ⟨rfl, rfl⟩
      go_wp2_with fail
      refine (time_any _ _).mono ?_
      rintro e _ ⟨rfl, rfl⟩
      go_wp2_with fail
      go_returns
      exact ⟨rfl, by (repeat (first | (with_reducible exact LaterOf.refl _) | (with_reducible refine LaterOf.alloc ?_ _) | (with_reducible refine LaterOf.drew ?_) | (with_reducible refine LaterOf.drewN ?_ _) | (with_reducible refine LaterOf.later ?_ _) | (with_reducible refine LaterOf.setCell ?_ (by first | exact Nat.le_refl _ | (simp; done) | omega | (simp; omega)) _)))⟩

theorem refCheck_any (a b k : Int) (h : IsCal w P A n c B m d S D) : Gives Try.prog 38 #[CalV P A n c B m d, .int .i64 a, .int .i64 b, .int .i64 k] w (.int .i64 (errI (validB P S D) (checkB a b && timeB k))) := by
  apply Gives.ret
  cases hv : validB P S D
  · have V := h.refValid hv
    clear h hv
    go_enter Try.func38, Try.ntmps38
    go_wp2_with fail
    refine (V _ (by (repeat (first | (with_reducible exact SinceOf.refl _) | (with_reducible assumption) | (with_reducible refine SinceOf.alloc ?_ _) | (with_reducible refine SinceOf.drew ?_) | (with_reducible refine SinceOf.drewN ?_ _) | (with_reducible refine SinceOf.later ?_ _) | (with_reducible refine SinceOf.further ?_ _) | (with_reducible refine SinceOf.setCell ?_ (by first | exact Nat.le_refl _ | (simp; done) | omega | (simp; omega)) _))))).calls.mono ?_
    rintro e _ ⟨rfl, x1, rfl⟩
    go_wp2_with fail
    go_returns
    exact ⟨rfl, by (repeat (first | (with_reducible exact LaterOf.refl _) | (with_reducible refine LaterOf.alloc ?_ _) | (with_reducible refine LaterOf.drew ?_) | (with_reducible refine LaterOf.drewN ?_ _) | (with_reducible refine LaterOf.later ?_ _) | (with_reducible refine LaterOf.setCell ?_ (by first | exact Nat.le_refl _ | (simp; done) | omega | (simp; omega)) _)))⟩
  · have V := h.refValid hv
    clear h hv
    have key : (checkB a b && timeB k) = false ∧ (decide (a < 0) = true ∨ (decide (a < 0) = false ∧ decide (1000000 < b) = true) ∨ (decide (a < 0) = false ∧ decide (1000000 < b) = false ∧ decide (b < a) = true) ∨ (decide (a < 0) = false ∧ decide (1000000 < b) = false ∧ decide (b < a) = false ∧ decide (k < 0) = true) ∨
          (decide (a < 0) = false ∧ decide (1000000 < b) = false ∧ decide (b < a) = false ∧ decide (k < 0) = false ∧ decide (1000000 < k) = true)) ∨
        (checkB a b && timeB k) = true ∧ decide (a < 0) = false ∧ decide (1000000 < b) = false ∧ decide (b < a) = false ∧ decide (k < 0) = false ∧ decide (1000000 < k) = false := by
      cases h1 : checkB a b <;> cases h2 : timeB k <;> simp only [checkB_iff, checkB_not, timeB_iff, timeB_not] at h1 h2 <;> simp only [Bool.and_true, Bool.and_false, decide_eq_true_eq, decide_eq_false_iff_not, true_and, Bool.false_eq_true, Bool.true_eq_false, false_and, or_false, false_or] <;> omega
    rcases key with ⟨e, hw⟩ | ⟨e, h1, h2, h3, h4, h5⟩
    · rw [e]
      clear e
      rcases hw with h1 | ⟨h1, h2⟩ | ⟨h1, h2, h3⟩ | ⟨h1, h2, h3, h4⟩ | ⟨h1, h2, h3, h4, h5⟩
      all_goals
        go_enter Try.func38, Try.ntmps38
        go_wp2_with fail
        refine (V _ (by (repeat (first | (with_reducible exact SinceOf.refl _) | (with_reducible assumption) | (with_reducible refine SinceOf.alloc ?_ _) | (with_reducible refine SinceOf.drew ?_) | (with_reducible refine SinceOf.drewN ?_ _) | (with_reducible refine SinceOf.later ?_ _) | (with_reducible refine SinceOf.further ?_ _) | (with_reducible refine SinceOf.setCell ?_ (by first | exact Nat.le_refl _ | (simp; done) | omega | (simp; omega)) _))))).calls.mono ?_
        rintro e _ ⟨rfl, x1, rfl⟩
        go_wp2_with fail
        go_returns
        exact ⟨rfl, by (repeat (first | (with_reducible exact LaterOf.refl _) | (with_reducible refine LaterOf.alloc ?_ _) | (with_reducible refine LaterOf.drew ?_) | (with_reducible refine LaterOf.drewN ?_ _) | (with_reducible refine LaterOf.later ?_ _) | (with_reducible refine LaterOf.setCell ?_ (by first | exact Nat.le_refl _ | (simp; done) | omega | (simp; omega)) _)))⟩
    · rw [e]
      clear e
      go_enter Try.func38, Try.ntmps38
      go_wp2_with fail
      refine (V _ (by (repeat (first | (with_reducible exact SinceOf.refl _) | (with_reducible assumption) | (with_reducible refine SinceOf.alloc ?_ _) | (with_reducible refine SinceOf.drew ?_) | (with_reducible refine SinceOf.drewN ?_ _) | (with_reducible refine SinceOf.later ?_ _) | (with_reducible refine SinceOf.further ?_ _) | (with_reducible refine SinceOf.setCell ?_ (by first | exact Nat.le_refl _ | (simp; done) | omega | (simp; omega)) _))))).calls.mono ?_
      rintro e _ ⟨rfl, x1, rfl⟩
      go_wp2_with fail
      go_returns
      exact ⟨rfl, by (repeat (first | (with_reducible exact LaterOf.refl _) | (with_reducible refine LaterOf.alloc ?_ _) | (with_reducible refine LaterOf.drew ?_) | (with_reducible refine LaterOf.drewN ?_ _) | (with_reducible refine LaterOf.later ?_ _) | (with_reducible refine LaterOf.setCell ?_ (by first | exact Nat.le_refl _ | (simp; done) | omega | (simp; omega)) _)))⟩
end
end Go.Proofs.Ytdcncalcncomoaa
/- Contracts of the calendar: Open, Work, and the reference's Open, Work, Next, Finish, Latest. -/
namespace Go.Proofs.Ytdcncalcncomoaa
open Go.RowKit
set_option linter.unusedVariables false

def openV (P : Int) (S D : List (Int × Int)) (t : Int) : Bool := validB P S D && timeB t && openI P S D t
def pairV (x : Int × Int) : Value := .tuple #[.int .i64 x.1, .int .i64 x.2]
def workV (P : Int) (S D : List (Int × Int)) (a b : Int) : Int × Int :=
  if (validB P S D && checkB a b) = true then (cnt (openI P S D) a (b - a).toNat, 0) else (0, errI (validB P S D) (checkB a b))
/-- The first place of n that is of a kind, behind a; none: error 8. -/
def foundV (a : Int) (p : Nat → Bool) (n : Nat) : Int × Int := if least p n < n then (a + least p n, 0) else (0, 8)
def nextV (P : Int) (S D : List (Int × Int)) (t : Int) : Int × Int :=
  if (validB P S D && timeB t) = true then foundV t (fun i => openI P S D (t + i)) (1000001 - t).toNat else (0, errI (validB P S D) (timeB t))
def finishV (P : Int) (S D : List (Int × Int)) (t k : Int) : Int × Int :=
  if (validB P S D && (timeB t && timeB k)) = true then foundV t (fun i => decide (k ≤ cnt (openI P S D) t i)) (1000001 - t).toNat else (0, errI (validB P S D) (timeB t && timeB k))
def latestV (P : Int) (S D : List (Int × Int)) (t k : Int) : Int × Int :=
  if (validB P S D && (timeB t && timeB k)) = true then (if least (fun i => decide (k ≤ cnt (openI P S D) (t - i) i)) (t + 1).toNat < (t + 1).toNat then (t - least (fun i => decide (k ≤ cnt (openI P S D) (t - i) i)) (t + 1).toNat, 0) else (0, 8))
  else (0, errI (validB P S D) (timeB t && timeB k))
theorem checkB_self (t : Int) : checkB t t = timeB t := by unfold checkB timeB; simp
theorem pair_eq {a b : Int} {x : Int × Int} (h : x = (a, b)) : Ending.returned (.tuple #[.int .i64 a, .int .i64 b]) = .returned (pairV x) := by rw [h]; rfl

section
variable {P : Int} {A B : Option Addr} {n c m d : Nat} {S D : List (Int × Int)} {w : World}
theorem open_any (t : Int) (h : IsCal w P A n c B m d S D) : Gives Try.prog 82 #[CalV P A n c B m d, .int .i64 t] w (.bool (openV P S D t)) := by
  apply Gives.ret
  unfold openV
  cases hv : validB P S D
  · have V := h.valid hv
    clear h hv
    go_enter Try.func82, Try.ntmps82
    go_wp2_with fail
    refine (V _ (by (repeat (first | (with_reducible exact SinceOf.refl _) | (with_reducible assumption) | (with_reducible refine SinceOf.alloc ?_ _) | (with_reducible refine SinceOf.drew ?_) | (with_reducible refine SinceOf.drewN ?_ _) | (with_reducible refine SinceOf.later ?_ _) | (with_reducible refine SinceOf.further ?_ _) | (with_reducible refine SinceOf.setCell ?_ (by first | exact Nat.le_refl _ | (simp; done) | omega | (simp; omega)) _))))).calls.mono ?_
    rintro e _ ⟨rfl, x1, rfl⟩
    go_wp2_with fail
    go_returns
    exact ⟨rfl, by (repeat (first | (with_reducible exact LaterOf.refl _) | (with_reducible refine LaterOf.alloc ?_ _) | (with_reducible refine LaterOf.drew ?_) | (with_reducible refine LaterOf.drewN ?_ _) | (with_reducible refine LaterOf.later ?_ _) | (with_reducible refine LaterOf.setCell ?_ (by first | exact Nat.le_refl _ | (simp; done) | omega | (simp; omega)) _)))⟩
  · have V := h.valid hv
    have g := validB_iff.1 hv
    cases ht : timeB t
    · clear h hv
      go_enter Try.func82, Try.ntmps82
      go_wp2_with fail
      refine (V _ (by (repeat (first | (with_reducible exact SinceOf.refl _) | (with_reducible assumption) | (with_reducible refine SinceOf.alloc ?_ _) | (with_reducible refine SinceOf.drew ?_) | (with_reducible refine SinceOf.drewN ?_ _) | (with_reducible refine SinceOf.later ?_ _) | (with_reducible refine SinceOf.further ?_ _) | (with_reducible refine SinceOf.setCell ?_ (by first | exact Nat.le_refl _ | (simp; done) | omega | (simp; omega)) _))))).calls.mono ?_
      rintro e _ ⟨rfl, x1, rfl⟩
      go_wp2_with fail
      refine (time_any _ _).mono ?_
      rintro e _ ⟨rfl, rfl⟩
      go_wp2_with fail
      go_returns
      exact ⟨rfl, by (repeat (first | (with_reducible exact LaterOf.refl _) | (with_reducible refine LaterOf.alloc ?_ _) | (with_reducible refine LaterOf.drew ?_) | (with_reducible refine LaterOf.drewN ?_ _) | (with_reducible refine LaterOf.later ?_ _) | (with_reducible refine LaterOf.setCell ?_ (by first | exact Nat.le_refl _ | (simp; done) | omega | (simp; omega)) _)))⟩
    · obtain ⟨h0, h1⟩ := timeB_iff.1 ht
      have W := fun W hW => h.work g W hW t (t + 1) h0 (by omega) (by omega)
      have e1 : (t + 1 - t).toNat = 1 := by omega
      rw [e1] at W
      simp only [cnt] at W
      rw [show t + ((0 : Nat) : Int) = t from by omega, Int.zero_add] at W
      clear h hv e1 g
      cases ho : openI P S D t
      all_goals
        rw [ho] at W
        clear ho
        simp only [if_true, Bool.false_eq_true, if_false] at W
        go_enter Try.func82, Try.ntmps82
        go_wp2_with fail
        refine (V _ (by (repeat (first | (with_reducible exact SinceOf.refl _) | (with_reducible assumption) | (with_reducible refine SinceOf.alloc ?_ _) | (with_reducible refine SinceOf.drew ?_) | (with_reducible refine SinceOf.drewN ?_ _) | (with_reducible refine SinceOf.later ?_ _) | (with_reducible refine SinceOf.further ?_ _) | (with_reducible refine SinceOf.setCell ?_ (by first | exact Nat.le_refl _ | (simp; done) | omega | (simp; omega)) _))))).calls.mono ?_
        rintro e _ ⟨rfl, x1, rfl⟩
        go_wp2_with fail
        refine (time_any _ _).mono ?_
        rintro e _ ⟨rfl, rfl⟩
        go_wp2_with fail
        refine (W _ (by (repeat (first | (with_reducible exact SinceOf.refl _) | (with_reducible assumption) | (with_reducible refine SinceOf.alloc ?_ _) | (with_reducible refine SinceOf.drew ?_) | (with_reducible refine SinceOf.drewN ?_ _) | (with_reducible refine SinceOf.later ?_ _) | (with_reducible refine SinceOf.further ?_ _) | (with_reducible refine SinceOf.setCell ?_ (by first | exact Nat.le_refl _ | (simp; done) | omega | (simp; omega)) _))))).calls.mono ?_
        rintro e _ ⟨rfl, x2, rfl⟩
        go_wp2_with fail
        go_returns
        exact ⟨rfl, by (repeat (first | (with_reducible exact LaterOf.refl _) | (with_reducible refine LaterOf.alloc ?_ _) | (with_reducible refine LaterOf.drew ?_) | (with_reducible refine LaterOf.drewN ?_ _) | (with_reducible refine LaterOf.later ?_ _) | (with_reducible refine LaterOf.setCell ?_ (by first | exact Nat.le_refl _ | (simp; done) | omega | (simp; omega)) _)))⟩
theorem refOpenAt_any (t : Int) (h : IsCal w P A n c B m d S D) : Gives Try.prog 58 #[CalV P A n c B m d, .int .i64 t] w (.bool (openV P S D t)) := by
  apply Gives.ret
  unfold openV
  cases hv : validB P S D
  · have V := h.refValid hv
    clear h hv
    go_enter Try.func58, Try.ntmps58
    go_wp2_with fail
    refine (V _ (by (repeat (first | (with_reducible exact SinceOf.refl _) | (with_reducible assumption) | (with_reducible refine SinceOf.alloc ?_ _) | (with_reducible refine SinceOf.drew ?_) | (with_reducible refine SinceOf.drewN ?_ _) | (with_reducible refine SinceOf.later ?_ _) | (with_reducible refine SinceOf.further ?_ _) | (with_reducible refine SinceOf.setCell ?_ (by first | exact Nat.le_refl _ | (simp; done) | omega | (simp; omega)) _))))).calls.mono ?_
    rintro e _ ⟨rfl, x1, rfl⟩
    go_wp2_with fail
    go_returns
    exact ⟨rfl, by (repeat (first | (with_reducible exact LaterOf.refl _) | (with_reducible refine LaterOf.alloc ?_ _) | (with_reducible refine LaterOf.drew ?_) | (with_reducible refine LaterOf.drewN ?_ _) | (with_reducible refine LaterOf.later ?_ _) | (with_reducible refine LaterOf.setCell ?_ (by first | exact Nat.le_refl _ | (simp; done) | omega | (simp; omega)) _)))⟩
  · have V := h.refValid hv
    have g := validB_iff.1 hv
    have key : (timeB t = false ∧ (decide (0 ≤ t) = false ∨ (decide (0 ≤ t) = true ∧ decide (t ≤ 1000000) = false))) ∨ (timeB t = true ∧ decide (0 ≤ t) = true ∧ decide (t ≤ 1000000) = true ∧ 0 ≤ t ∧ t ≤ 1000000) := by
      simp only [timeB_iff, timeB_not, decide_eq_true_eq, decide_eq_false_iff_not]; omega
    have W := h.refOpen g
    clear h hv g
    rcases key with ⟨e, h1 | ⟨h1, h2⟩⟩ | ⟨e, h1, h2, h3, h4⟩
    · rw [e]; clear e
      go_enter Try.func58, Try.ntmps58
      go_wp2_with fail
      refine (V _ (by (repeat (first | (with_reducible exact SinceOf.refl _) | (with_reducible assumption) | (with_reducible refine SinceOf.alloc ?_ _) | (with_reducible refine SinceOf.drew ?_) | (with_reducible refine SinceOf.drewN ?_ _) | (with_reducible refine SinceOf.later ?_ _) | (with_reducible refine SinceOf.further ?_ _) | (with_reducible refine SinceOf.setCell ?_ (by first | exact Nat.le_refl _ | (simp; done) | omega | (simp; omega)) _))))).calls.mono ?_
      rintro e _ ⟨rfl, x1, rfl⟩
      go_wp2_with fail
      go_returns
      exact ⟨rfl, by (repeat (first | (with_reducible exact LaterOf.refl _) | (with_reducible refine LaterOf.alloc ?_ _) | (with_reducible refine LaterOf.drew ?_) | (with_reducible refine LaterOf.drewN ?_ _) | (with_reducible refine LaterOf.later ?_ _) | (with_reducible refine LaterOf.setCell ?_ (by first | exact Nat.le_refl _ | (simp; done) | omega | (simp; omega)) _)))⟩
    · rw [e]; clear e
      go_enter Try.func58, Try.ntmps58
      go_wp2_with fail
      refine (V _ (by (repeat (first | (with_reducible exact SinceOf.refl _) | (with_reducible assumption) | (with_reducible refine SinceOf.alloc ?_ _) | (with_reducible refine SinceOf.drew ?_) | (with_reducible refine SinceOf.drewN ?_ _) | (with_reducible refine SinceOf.later ?_ _) | (with_reducible refine SinceOf.further ?_ _) | (with_reducible refine SinceOf.setCell ?_ (by first | exact Nat.le_refl _ | (simp; done) | omega | (simp; omega)) _))))).calls.mono ?_
      rintro e _ ⟨rfl, x1, rfl⟩
      go_wp2_with fail
      go_returns
      exact ⟨rfl, by (repeat (first | (with_reducible exact LaterOf.refl _) | (with_reducible refine LaterOf.alloc ?_ _) | (with_reducible refine LaterOf.drew ?_) | (with_reducible refine LaterOf.drewN ?_ _) | (with_reducible refine LaterOf.later ?_ _) | (with_reducible refine LaterOf.setCell ?_ (by first | exact Nat.le_refl _ | (simp; done) | omega | (simp; omega)) _)))⟩
    · rw [e]; clear e
      go_enter Try.func58, Try.ntmps58
      go_wp2_with fail
      refine (V _ (by (repeat (first | (with_reducible exact SinceOf.refl _) | (with_reducible assumption) | (with_reducible refine SinceOf.alloc ?_ _) | (with_reducible refine SinceOf.drew ?_) | (with_reducible refine SinceOf.drewN ?_ _) | (with_reducible refine SinceOf.later ?_ _) | (with_reducible refine SinceOf.further ?_ _) | (with_reducible refine SinceOf.setCell ?_ (by first | exact Nat.le_refl _ | (simp; done) | omega | (simp; omega)) _))))).calls.mono ?_
      rintro e _ ⟨rfl, x1, rfl⟩
      go_wp2_with fail
      refine (W _ (by (repeat (first | (with_reducible exact SinceOf.refl _) | (with_reducible assumption) | (with_reducible refine SinceOf.alloc ?_ _) | (with_reducible refine SinceOf.drew ?_) | (with_reducible refine SinceOf.drewN ?_ _) | (with_reducible refine SinceOf.later ?_ _) | (with_reducible refine SinceOf.further ?_ _) | (with_reducible refine SinceOf.setCell ?_ (by first | exact Nat.le_refl _ | (simp; done) | omega | (simp; omega)) _)))) t h3 (by omega)).calls.mono ?_
      rintro e _ ⟨rfl, x2, rfl⟩
      go_wp2_with fail
      go_returns
      exact ⟨rfl, by (repeat (first | (with_reducible exact LaterOf.refl _) | (with_reducible refine LaterOf.alloc ?_ _) | (with_reducible refine LaterOf.drew ?_) | (with_reducible refine LaterOf.drewN ?_ _) | (with_reducible refine LaterOf.later ?_ _) | (with_reducible refine LaterOf.setCell ?_ (by first | exact Nat.le_refl _ | (simp; done) | omega | (simp; omega)) _)))⟩
theorem work_law (a b : Int) (h : IsCal w P A n c B m d S D) : Gives Try.prog 97 #[CalV P A n c B m d, .int .i64 a, .int .i64 b] w (pairV (workV P S D a b)) := by
  apply Gives.ret
  have K := fun W hW => checked_any (w := W) a b (h.of hW)
  unfold workV
  cases hv : validB P S D <;> cases hc : checkB a b
  · rw [hv, hc] at K
    clear h hv hc
    go_enter Try.func97, Try.ntmps97
    go_wp2_with fail
    refine (K _ (by (repeat (first | (with_reducible exact SinceOf.refl _) | (with_reducible assumption) | (with_reducible refine SinceOf.alloc ?_ _) | (with_reducible refine SinceOf.drew ?_) | (with_reducible refine SinceOf.drewN ?_ _) | (with_reducible refine SinceOf.later ?_ _) | (with_reducible refine SinceOf.further ?_ _) | (with_reducible refine SinceOf.setCell ?_ (by first | exact Nat.le_refl _ | (simp; done) | omega | (simp; omega)) _))))).calls.mono ?_
    rintro e _ ⟨rfl, x1, rfl⟩
    simp only [errI, Bool.false_eq_true, if_false]
    go_wp2_with fail
    go_returns
    exact ⟨rfl, by (repeat (first | (with_reducible exact LaterOf.refl _) | (with_reducible refine LaterOf.alloc ?_ _) | (with_reducible refine LaterOf.drew ?_) | (with_reducible refine LaterOf.drewN ?_ _) | (with_reducible refine LaterOf.later ?_ _) | (with_reducible refine LaterOf.setCell ?_ (by first | exact Nat.le_refl _ | (simp; done) | omega | (simp; omega)) _)))⟩
  · rw [hv, hc] at K
    clear h hv hc
    go_enter Try.func97, Try.ntmps97
    go_wp2_with fail
    refine (K _ (by (repeat (first | (with_reducible exact SinceOf.refl _) | (with_reducible assumption) | (with_reducible refine SinceOf.alloc ?_ _) | (with_reducible refine SinceOf.drew ?_) | (with_reducible refine SinceOf.drewN ?_ _) | (with_reducible refine SinceOf.later ?_ _) | (with_reducible refine SinceOf.further ?_ _) | (with_reducible refine SinceOf.setCell ?_ (by first | exact Nat.le_refl _ | (simp; done) | omega | (simp; omega)) _))))).calls.mono ?_
    rintro e _ ⟨rfl, x1, rfl⟩
    simp only [errI, Bool.false_eq_true, if_false, if_true]
    go_wp2_with fail
    go_returns
    exact ⟨rfl, by (repeat (first | (with_reducible exact LaterOf.refl _) | (with_reducible refine LaterOf.alloc ?_ _) | (with_reducible refine LaterOf.drew ?_) | (with_reducible refine LaterOf.drewN ?_ _) | (with_reducible refine LaterOf.later ?_ _) | (with_reducible refine LaterOf.setCell ?_ (by first | exact Nat.le_refl _ | (simp; done) | omega | (simp; omega)) _)))⟩
  · rw [hv, hc] at K
    clear h hv hc
    go_enter Try.func97, Try.ntmps97
    go_wp2_with fail
    refine (K _ (by (repeat (first | (with_reducible exact SinceOf.refl _) | (with_reducible assumption) | (with_reducible refine SinceOf.alloc ?_ _) | (with_reducible refine SinceOf.drew ?_) | (with_reducible refine SinceOf.drewN ?_ _) | (with_reducible refine SinceOf.later ?_ _) | (with_reducible refine SinceOf.further ?_ _) | (with_reducible refine SinceOf.setCell ?_ (by first | exact Nat.le_refl _ | (simp; done) | omega | (simp; omega)) _))))).calls.mono ?_
    rintro e _ ⟨rfl, x1, rfl⟩
    simp only [errI, Bool.false_eq_true, if_false, if_true]
    go_wp2_with fail
    go_returns
    exact ⟨rfl, by (repeat (first | (with_reducible exact LaterOf.refl _) | (with_reducible refine LaterOf.alloc ?_ _) | (with_reducible refine LaterOf.drew ?_) | (with_reducible refine LaterOf.drewN ?_ _) | (with_reducible refine LaterOf.later ?_ _) | (with_reducible refine LaterOf.setCell ?_ (by first | exact Nat.le_refl _ | (simp; done) | omega | (simp; omega)) _)))⟩
  · rw [hv, hc] at K
    have g := validB_iff.1 hv
    obtain ⟨h0, h1, h2⟩ := checkB_iff.1 hc
    have W := fun W hW => h.work g W hW a b h0 h1 (by omega)
    clear h hv hc g
    go_enter Try.func97, Try.ntmps97
    go_wp2_with fail
    refine (K _ (by (repeat (first | (with_reducible exact SinceOf.refl _) | (with_reducible assumption) | (with_reducible refine SinceOf.alloc ?_ _) | (with_reducible refine SinceOf.drew ?_) | (with_reducible refine SinceOf.drewN ?_ _) | (with_reducible refine SinceOf.later ?_ _) | (with_reducible refine SinceOf.further ?_ _) | (with_reducible refine SinceOf.setCell ?_ (by first | exact Nat.le_refl _ | (simp; done) | omega | (simp; omega)) _))))).calls.mono ?_
    rintro e _ ⟨rfl, x1, rfl⟩
    simp only [errI, if_true]
    go_wp2_with fail
    refine (W _ (by (repeat (first | (with_reducible exact SinceOf.refl _) | (with_reducible assumption) | (with_reducible refine SinceOf.alloc ?_ _) | (with_reducible refine SinceOf.drew ?_) | (with_reducible refine SinceOf.drewN ?_ _) | (with_reducible refine SinceOf.later ?_ _) | (with_reducible refine SinceOf.further ?_ _) | (with_reducible refine SinceOf.setCell ?_ (by first | exact Nat.le_refl _ | (simp; done) | omega | (simp; omega)) _))))).calls.mono ?_
    rintro e _ ⟨rfl, x2, rfl⟩
    go_wp2_with fail
    go_returns
    exact ⟨rfl, by (repeat (first | (with_reducible exact LaterOf.refl _) | (with_reducible refine LaterOf.alloc ?_ _) | (with_reducible refine LaterOf.drew ?_) | (with_reducible refine LaterOf.drewN ?_ _) | (with_reducible refine LaterOf.later ?_ _) | (with_reducible refine LaterOf.setCell ?_ (by first | exact Nat.le_refl _ | (simp; done) | omega | (simp; omega)) _)))⟩
end
end Go.Proofs.Ytdcncalcncomoaa
/- Contracts of the calendar: the reference's Work, Next, Finish, Latest. -/
namespace Go.Proofs.Ytdcncalcncomoaa
open Go.RowKit
set_option linter.unusedVariables false

theorem cnt_next (f : Int → Bool) {a t : Int} (h : a ≤ t) : cnt f a (t + 1 - a).toNat = cnt f a (t - a).toNat + (if f t = true then 1 else 0) := by
  obtain ⟨n, hn⟩ := Int.eq_ofNat_of_zero_le (show 0 ≤ t - a by omega)
  obtain rfl : t = a + n := by omega
  rw [show (a + (n : Int) + 1 - a).toNat = n + 1 from by omega, show (a + (n : Int) - a).toNat = n from by omega]; rfl
theorem found_at {a t : Int} {p : Nat → Bool} {n : Nat} (h1 : a ≤ t) (h2 : (t - a).toNat < n) (h3 : ∀ i, i < (t - a).toNat → p i = false) (h4 : p (t - a).toNat = true) : foundV a p n = (t, 0) := by
  have e := least_is (Nat.le_of_lt h2) h3 (fun _ => h4)
  unfold foundV
  rw [e, if_pos h2]; congr 1; omega
theorem found_none {a : Int} {p : Nat → Bool} {n : Nat} (h3 : ∀ i, i < n → p i = false) : foundV a p n = (0, 8) := by
  have e := least_is (Nat.le_refl n) h3 (fun h => absurd h (Nat.lt_irrefl _))
  unfold foundV
  rw [e, if_neg (Nat.lt_irrefl _)]

section
variable {P : Int} {A B : Option Addr} {n c m d : Nat} {S D : List (Int × Int)} {w : World}
set_option maxHeartbeats 1000000 in
theorem refWork_any (a b : Int) (h : IsCal w P A n c B m d S D) : Gives Try.prog 79 #[CalV P A n c B m d, .int .i64 a, .int .i64 b] w (pairV (workV P S D a b)) := by
  apply Gives.ret
  have K := fun W hW => refCheck_any (w := W) a b 0 (h.of hW)
  rw [show timeB 0 = true from rfl, Bool.and_true] at K
  unfold workV
  by_cases hg : (validB P S D && checkB a b) = true
  · rw [if_pos hg]
    rw [Bool.and_eq_true] at hg
    obtain ⟨hv, hc⟩ := hg
    rw [hv, hc] at K
    have g := validB_iff.1 hv
    obtain ⟨h0, h1, h2⟩ := checkB_iff.1 hc
    have W := h.refOpen g
    clear h hv hc g
    go_enter Try.func79, Try.ntmps79
    go_wp2_with fail
    refine (K _ (by (repeat (first | (with_reducible exact SinceOf.refl _) | (with_reducible assumption) | (with_reducible refine SinceOf.alloc ?_ _) | (with_reducible refine SinceOf.drew ?_) | (with_reducible refine SinceOf.drewN ?_ _) | (with_reducible refine SinceOf.later ?_ _) | (with_reducible refine SinceOf.further ?_ _) | (with_reducible refine SinceOf.setCell ?_ (by first | exact Nat.le_refl _ | (simp; done) | omega | (simp; omega)) _))))).calls.mono ?_
    rintro e _ ⟨rfl, x1, rfl⟩
    simp only [errI, if_true]
    go_wp2_with fail
    go_loopg [9, 10] (b - a).toNat (fun g s9 s10 wr => ∃ (t x : Int), a ≤ t ∧ t ≤ b ∧ (b - t).toNat ≤ g ∧ s9 = .int .i64 x ∧ s10 = .int .i64 t ∧ LaterOf x1.wd wr ∧ x = cnt (openI P S D) a (t - a).toNat)
    case atStart => exact ⟨a, 0, Int.le_refl _, h1, Nat.le_refl _, rfl, rfl, by (repeat (first | (with_reducible exact LaterOf.refl _) | (with_reducible refine LaterOf.alloc ?_ _) | (with_reducible refine LaterOf.drew ?_) | (with_reducible refine LaterOf.drewN ?_ _) | (with_reducible refine LaterOf.later ?_ _) | (with_reducible refine LaterOf.setCell ?_ (by first | exact Nat.le_refl _ | (simp; done) | omega | (simp; omega)) _))), by rw [Int.sub_self]; rfl⟩
    case round =>
      obtain ⟨t, x, ht1, ht2, hg, rfl, rfl, ⟨z, rfl⟩, hx⟩ := hrel
      have hb := cnt_bounds (openI P S D) a (t - a).toNat
      rw [← hx] at hb
      have hb1 : 0 ≤ x ∧ x ≤ 1000000 := by omega
      obtain ⟨hb1, hb2⟩ := hb1
      have E := Lib.hid hx
      clear hx hb
      by_cases hlt : t < b
      · have hn := cnt_next (openI P S D) ht1
        have C := W z.wd (by (repeat (first | (with_reducible exact SinceOf.refl _) | (with_reducible assumption) | (with_reducible refine SinceOf.alloc ?_ _) | (with_reducible refine SinceOf.drew ?_) | (with_reducible refine SinceOf.drewN ?_ _) | (with_reducible refine SinceOf.later ?_ _) | (with_reducible refine SinceOf.further ?_ _) | (with_reducible refine SinceOf.setCell ?_ (by first | exact Nat.le_refl _ | (simp; done) | omega | (simp; omega)) _)))) t (by omega) (by omega)
        cases ho : openI P S D t
        all_goals
          rw [ho] at hn C
          have HN := Lib.hid hn
          clear hn ho
          go_wp2_with fail
          refine C.calls.mono ?_
          rintro e _ ⟨rfl, x2, rfl⟩
          go_wp2_with fail
          go_roundg (b - (t + 1)).toNat
          case measure => omega
          case rel => exact ⟨t + 1, _, by omega, by omega, Nat.le_refl _, rfl, rfl, by (repeat (first | (with_reducible exact LaterOf.refl _) | (with_reducible refine LaterOf.alloc ?_ _) | (with_reducible refine LaterOf.drew ?_) | (with_reducible refine LaterOf.drewN ?_ _) | (with_reducible refine LaterOf.later ?_ _) | (with_reducible refine LaterOf.setCell ?_ (by first | exact Nat.le_refl _ | (simp; done) | omega | (simp; omega)) _))), by rw [HN.out, ← E.out]; simp⟩
      · go_wp2_with fail
        go_returns
        refine ⟨?_, by (repeat (first | (with_reducible exact LaterOf.refl _) | (with_reducible refine LaterOf.alloc ?_ _) | (with_reducible refine LaterOf.drew ?_) | (with_reducible refine LaterOf.drewN ?_ _) | (with_reducible refine LaterOf.later ?_ _) | (with_reducible refine LaterOf.setCell ?_ (by first | exact Nat.le_refl _ | (simp; done) | omega | (simp; omega)) _)))⟩
        rw [show b = t from by omega, ← E.out]; rfl
  · rw [if_neg hg]
    have hd : errI (validB P S D) (checkB a b) = 1 ∨ errI (validB P S D) (checkB a b) = 2 := by
      cases hv : validB P S D <;> cases hc : checkB a b <;> simp [hv, hc, errI] at hg ⊢
    clear h hg
    generalize errI (validB P S D) (checkB a b) = q at *
    rcases hd with rfl | rfl
    all_goals
      go_enter Try.func79, Try.ntmps79
      go_wp2_with fail
      refine (K _ (by (repeat (first | (with_reducible exact SinceOf.refl _) | (with_reducible assumption) | (with_reducible refine SinceOf.alloc ?_ _) | (with_reducible refine SinceOf.drew ?_) | (with_reducible refine SinceOf.drewN ?_ _) | (with_reducible refine SinceOf.later ?_ _) | (with_reducible refine SinceOf.further ?_ _) | (with_reducible refine SinceOf.setCell ?_ (by first | exact Nat.le_refl _ | (simp; done) | omega | (simp; omega)) _))))).calls.mono ?_
      rintro e _ ⟨rfl, x1, rfl⟩
      go_wp2_with fail
      go_returns
      exact ⟨rfl, by (repeat (first | (with_reducible exact LaterOf.refl _) | (with_reducible refine LaterOf.alloc ?_ _) | (with_reducible refine LaterOf.drew ?_) | (with_reducible refine LaterOf.drewN ?_ _) | (with_reducible refine LaterOf.later ?_ _) | (with_reducible refine LaterOf.setCell ?_ (by first | exact Nat.le_refl _ | (simp; done) | omega | (simp; omega)) _)))⟩
set_option maxHeartbeats 1000000 in
theorem refNext_any (a : Int) (h : IsCal w P A n c B m d S D) : Gives Try.prog 37 #[CalV P A n c B m d, .int .i64 a] w (pairV (nextV P S D a)) := by
  apply Gives.ret
  have K := fun W hW => refCheck_any (w := W) a a 0 (h.of hW)
  rw [show timeB 0 = true from rfl, Bool.and_true, checkB_self] at K
  unfold nextV
  by_cases hg : (validB P S D && timeB a) = true
  · rw [if_pos hg]
    rw [Bool.and_eq_true] at hg
    obtain ⟨hv, hc⟩ := hg
    rw [hv, hc] at K
    have g := validB_iff.1 hv
    obtain ⟨h0, h1⟩ := timeB_iff.1 hc
    have W := h.refOpen g
    clear h hv hc g
    go_enter Try.func37, Try.ntmps37
    go_wp2_with fail
    refine (K _ (by (repeat (first | (with_reducible exact SinceOf.refl _) | (with_reducible assumption) | (with_reducible refine SinceOf.alloc ?_ _) | (with_reducible refine SinceOf.drew ?_) | (with_reducible refine SinceOf.drewN ?_ _) | (with_reducible refine SinceOf.later ?_ _) | (with_reducible refine SinceOf.further ?_ _) | (with_reducible refine SinceOf.setCell ?_ (by first | exact Nat.le_refl _ | (simp; done) | omega | (simp; omega)) _))))).calls.mono ?_
    rintro e _ ⟨rfl, x1, rfl⟩
    simp only [errI, if_true]
    go_wp2_with fail
    go_loopg [1] (1000001 - a).toNat (fun g s1 wr => ∃ (t : Int), a ≤ t ∧ t ≤ 1000001 ∧ (1000001 - t).toNat ≤ g ∧ s1 = .int .i64 t ∧ LaterOf x1.wd wr ∧ ∀ i : Nat, i < (t - a).toNat → openI P S D (a + i) = false)
    case atStart => exact ⟨a, Int.le_refl _, by omega, Nat.le_refl _, rfl, by (repeat (first | (with_reducible exact LaterOf.refl _) | (with_reducible refine LaterOf.alloc ?_ _) | (with_reducible refine LaterOf.drew ?_) | (with_reducible refine LaterOf.drewN ?_ _) | (with_reducible refine LaterOf.later ?_ _) | (with_reducible refine LaterOf.setCell ?_ (by first | exact Nat.le_refl _ | (simp; done) | omega | (simp; omega)) _))), by intro i hi; omega⟩
    case round =>
      obtain ⟨t, ht1, ht2, hg, rfl, ⟨z, rfl⟩, hx⟩ := hrel
      have E := Lib.hid hx
      clear hx
      by_cases hlt : t < 1000001
      · have C := W z.wd (by (repeat (first | (with_reducible exact SinceOf.refl _) | (with_reducible assumption) | (with_reducible refine SinceOf.alloc ?_ _) | (with_reducible refine SinceOf.drew ?_) | (with_reducible refine SinceOf.drewN ?_ _) | (with_reducible refine SinceOf.later ?_ _) | (with_reducible refine SinceOf.further ?_ _) | (with_reducible refine SinceOf.setCell ?_ (by first | exact Nat.le_refl _ | (simp; done) | omega | (simp; omega)) _)))) t (by omega) (by omega)
        cases ho : openI P S D t
        · have HO := Lib.hid ho
          rw [ho] at C
          clear ho
          go_wp2_with fail
          refine C.calls.mono ?_
          rintro e _ ⟨rfl, x2, rfl⟩
          go_wp2_with fail
          go_roundg (1000001 - (t + 1)).toNat
          case measure => omega
          case rel =>
            refine ⟨t + 1, by omega, by omega, Nat.le_refl _, rfl, by (repeat (first | (with_reducible exact LaterOf.refl _) | (with_reducible refine LaterOf.alloc ?_ _) | (with_reducible refine LaterOf.drew ?_) | (with_reducible refine LaterOf.drewN ?_ _) | (with_reducible refine LaterOf.later ?_ _) | (with_reducible refine LaterOf.setCell ?_ (by first | exact Nat.le_refl _ | (simp; done) | omega | (simp; omega)) _))), fun i hi => ?_⟩
            by_cases e : i < (t - a).toNat
            · exact E.out i e
            · rw [show a + (i : Int) = t from by omega]; exact HO.out
        · have HF := Lib.hid (found_at (a := a) (t := t) (p := fun i => openI P S D (a + i)) (n := (1000001 - a).toNat) ht1 (by omega) E.out (by rw [show a + ((t - a).toNat : Int) = t from by omega]; exact ho))
          rw [ho] at C
          clear ho
          go_wp2_with fail
          refine C.calls.mono ?_
          rintro e _ ⟨rfl, x2, rfl⟩
          go_wp2_with fail
          go_returns
          exact ⟨pair_eq HF.out, by (repeat (first | (with_reducible exact LaterOf.refl _) | (with_reducible refine LaterOf.alloc ?_ _) | (with_reducible refine LaterOf.drew ?_) | (with_reducible refine LaterOf.drewN ?_ _) | (with_reducible refine LaterOf.later ?_ _) | (with_reducible refine LaterOf.setCell ?_ (by first | exact Nat.le_refl _ | (simp; done) | omega | (simp; omega)) _)))⟩
      · have HF := Lib.hid (found_none (a := a) (p := fun i => openI P S D (a + i)) (n := (1000001 - a).toNat) (by rw [show (1000001 - a).toNat = (t - a).toNat from by omega]; exact E.out))
        go_wp2_with fail
        go_returns
        exact ⟨pair_eq HF.out, by (repeat (first | (with_reducible exact LaterOf.refl _) | (with_reducible refine LaterOf.alloc ?_ _) | (with_reducible refine LaterOf.drew ?_) | (with_reducible refine LaterOf.drewN ?_ _) | (with_reducible refine LaterOf.later ?_ _) | (with_reducible refine LaterOf.setCell ?_ (by first | exact Nat.le_refl _ | (simp; done) | omega | (simp; omega)) _)))⟩
  · rw [if_neg hg]
    have hd : errI (validB P S D) (timeB a) = 1 ∨ errI (validB P S D) (timeB a) = 2 := by
      cases hv : validB P S D <;> cases hc : timeB a <;> simp [hv, hc, errI] at hg ⊢
    clear h hg
    generalize errI (validB P S D) (timeB a) = q at *
    rcases hd with rfl | rfl
    all_goals
      go_enter Try.func37, Try.ntmps37
      go_wp2_with fail
      refine (K _ (by (repeat (first | (with_reducible exact SinceOf.refl _) | (with_reducible assumption) | (with_reducible refine SinceOf.alloc ?_ _) | (with_reducible refine SinceOf.drew ?_) | (with_reducible refine SinceOf.drewN ?_ _) | (with_reducible refine SinceOf.later ?_ _) | (with_reducible refine SinceOf.further ?_ _) | (with_reducible refine SinceOf.setCell ?_ (by first | exact Nat.le_refl _ | (simp; done) | omega | (simp; omega)) _))))).calls.mono ?_
      rintro e _ ⟨rfl, x1, rfl⟩
      go_wp2_with fail
      go_returns
      exact ⟨rfl, by (repeat (first | (with_reducible exact LaterOf.refl _) | (with_reducible refine LaterOf.alloc ?_ _) | (with_reducible refine LaterOf.drew ?_) | (with_reducible refine LaterOf.drewN ?_ _) | (with_reducible refine LaterOf.later ?_ _) | (with_reducible refine LaterOf.setCell ?_ (by first | exact Nat.le_refl _ | (simp; done) | omega | (simp; omega)) _)))⟩
set_option maxHeartbeats 1000000 in
theorem refFinish_any (a k : Int) (h : IsCal w P A n c B m d S D) : Gives Try.prog 15 #[CalV P A n c B m d, .int .i64 a, .int .i64 k] w (pairV (finishV P S D a k)) := by
  apply Gives.ret
  have K := fun W hW => refCheck_any (w := W) a a k (h.of hW)
  rw [checkB_self] at K
  unfold finishV
  by_cases hg : (validB P S D && (timeB a && timeB k)) = true
  · rw [if_pos hg]
    rw [Bool.and_eq_true] at hg
    obtain ⟨hv, hc⟩ := hg
    rw [hv, hc] at K
    rw [Bool.and_eq_true] at hc
    have g := validB_iff.1 hv
    obtain ⟨h0, h1⟩ := timeB_iff.1 hc.1
    obtain ⟨k0, k1⟩ := timeB_iff.1 hc.2
    have W := h.refOpen g
    clear h hv hc g
    go_enter Try.func15, Try.ntmps15
    go_wp2_with fail
    refine (K _ (by (repeat (first | (with_reducible exact SinceOf.refl _) | (with_reducible assumption) | (with_reducible refine SinceOf.alloc ?_ _) | (with_reducible refine SinceOf.drew ?_) | (with_reducible refine SinceOf.drewN ?_ _) | (with_reducible refine SinceOf.later ?_ _) | (with_reducible refine SinceOf.further ?_ _) | (with_reducible refine SinceOf.setCell ?_ (by first | exact Nat.le_refl _ | (simp; done) | omega | (simp; omega)) _))))).calls.mono ?_
    rintro e _ ⟨rfl, x1, rfl⟩
    simp only [errI, if_true]
    go_wp2_with fail
    go_loopg [2, 9] (1000001 - a).toNat (fun g s2 s9 wr => ∃ (t y : Int), a ≤ t ∧ t ≤ 1000001 ∧ 0 ≤ y ∧ y ≤ 1000000 ∧ (1000001 - t).toNat ≤ g ∧ s2 = .int .i64 y ∧ s9 = .int .i64 t ∧ LaterOf x1.wd wr ∧ y = k - cnt (openI P S D) a (t - a).toNat ∧ ∀ i : Nat, i < (t - a).toNat → decide (k ≤ cnt (openI P S D) a i) = false)
    case atStart => exact ⟨a, k, Int.le_refl _, by omega, k0, k1, Nat.le_refl _, rfl, rfl, by (repeat (first | (with_reducible exact LaterOf.refl _) | (with_reducible refine LaterOf.alloc ?_ _) | (with_reducible refine LaterOf.drew ?_) | (with_reducible refine LaterOf.drewN ?_ _) | (with_reducible refine LaterOf.later ?_ _) | (with_reducible refine LaterOf.setCell ?_ (by first | exact Nat.le_refl _ | (simp; done) | omega | (simp; omega)) _))), by rw [Int.sub_self]; simp [cnt], by intro i hi; omega⟩
    case round =>
      obtain ⟨t, y, ht1, ht2, y0, y1, hg, rfl, rfl, ⟨z, rfl⟩, hy, hx⟩ := hrel
      have E := Lib.hid (And.intro hy hx)
      clear hx hy
      by_cases hlt : t < 1000001
      · by_cases hz : y = 0
        · have HF := Lib.hid (found_at (a := a) (t := t) (p := fun i => decide (k ≤ cnt (openI P S D) a i)) (n := (1000001 - a).toNat) ht1 (by omega) E.out.2 (by have := E.out.1; simp; omega))
          subst hz
          go_wp2_with fail
          go_returns
          exact ⟨pair_eq HF.out, by (repeat (first | (with_reducible exact LaterOf.refl _) | (with_reducible refine LaterOf.alloc ?_ _) | (with_reducible refine LaterOf.drew ?_) | (with_reducible refine LaterOf.drewN ?_ _) | (with_reducible refine LaterOf.later ?_ _) | (with_reducible refine LaterOf.setCell ?_ (by first | exact Nat.le_refl _ | (simp; done) | omega | (simp; omega)) _)))⟩
        · have hzb : (y == 0) = false := by rw [beq_eq_false_iff_ne]; exact hz
          have y2 : 1 ≤ y := by omega
          have hn := cnt_next (openI P S D) ht1
          have C := W z.wd (by (repeat (first | (with_reducible exact SinceOf.refl _) | (with_reducible assumption) | (with_reducible refine SinceOf.alloc ?_ _) | (with_reducible refine SinceOf.drew ?_) | (with_reducible refine SinceOf.drewN ?_ _) | (with_reducible refine SinceOf.later ?_ _) | (with_reducible refine SinceOf.further ?_ _) | (with_reducible refine SinceOf.setCell ?_ (by first | exact Nat.le_refl _ | (simp; done) | omega | (simp; omega)) _)))) t (by omega) (by omega)
          cases ho : openI P S D t
          all_goals
            rw [ho] at hn C
            have HN := Lib.hid hn
            have HZ := Lib.hid hz
            clear hn ho hz
            go_wp2_with fail
            refine C.calls.mono ?_
            rintro e _ ⟨rfl, x2, rfl⟩
            go_wp2_with fail
            go_roundg (1000001 - (t + 1)).toNat
            case measure => omega
            case rel =>
              have e1 := E.out.1
              have e2 := HN.out
              simp only [Bool.false_eq_true, if_false, if_true] at e2
              refine ⟨t + 1, _, by omega, by omega, ?_, ?_, Nat.le_refl _, rfl, rfl, by (repeat (first | (with_reducible exact LaterOf.refl _) | (with_reducible refine LaterOf.alloc ?_ _) | (with_reducible refine LaterOf.drew ?_) | (with_reducible refine LaterOf.drewN ?_ _) | (with_reducible refine LaterOf.later ?_ _) | (with_reducible refine LaterOf.setCell ?_ (by first | exact Nat.le_refl _ | (simp; done) | omega | (simp; omega)) _))), ?_, fun i hi => ?_⟩
              · omega
              · omega
              · omega
              · by_cases e : i < (t - a).toNat
                · exact E.out.2 i e
                · rw [show i = (t - a).toNat from by omega]; simp; omega
      · have HF := Lib.hid (found_none (a := a) (p := fun i => decide (k ≤ cnt (openI P S D) a i)) (n := (1000001 - a).toNat) (by rw [show (1000001 - a).toNat = (t - a).toNat from by omega]; exact E.out.2))
        go_wp2_with fail
        go_returns
        exact ⟨pair_eq HF.out, by (repeat (first | (with_reducible exact LaterOf.refl _) | (with_reducible refine LaterOf.alloc ?_ _) | (with_reducible refine LaterOf.drew ?_) | (with_reducible refine LaterOf.drewN ?_ _) | (with_reducible refine LaterOf.later ?_ _) | (with_reducible refine LaterOf.setCell ?_ (by first | exact Nat.le_refl _ | (simp; done) | omega | (simp; omega)) _)))⟩
  · rw [if_neg hg]
    have hd : errI (validB P S D) (timeB a && timeB k) = 1 ∨ errI (validB P S D) (timeB a && timeB k) = 2 := by
      cases hv : validB P S D <;> cases hc : (timeB a && timeB k) <;> simp only [errI, Bool.false_eq_true, if_false, if_true, or_true, true_or] <;> simp [hv, hc] at hg
    clear h hg
    generalize errI (validB P S D) (timeB a && timeB k) = q at *
    rcases hd with rfl | rfl
    all_goals
      go_enter Try.func15, Try.ntmps15
      go_wp2_with fail
      refine (K _ (by (repeat (first | (with_reducible exact SinceOf.refl _) | (with_reducible assumption) | (with_reducible refine SinceOf.alloc ?_ _) | (with_reducible refine SinceOf.drew ?_) | (with_reducible refine SinceOf.drewN ?_ _) | (with_reducible refine SinceOf.later ?_ _) | (with_reducible refine SinceOf.further ?_ _) | (with_reducible refine SinceOf.setCell ?_ (by first | exact Nat.le_refl _ | (simp; done) | omega | (simp; omega)) _))))).calls.mono ?_
      rintro e _ ⟨rfl, x1, rfl⟩
      go_wp2_with fail
      go_returns
      exact ⟨rfl, by (repeat (first | (with_reducible exact LaterOf.refl _) | (with_reducible refine LaterOf.alloc ?_ _) | (with_reducible refine LaterOf.drew ?_) | (with_reducible refine LaterOf.drewN ?_ _) | (with_reducible refine LaterOf.later ?_ _) | (with_reducible refine LaterOf.setCell ?_ (by first | exact Nat.le_refl _ | (simp; done) | omega | (simp; omega)) _)))⟩

theorem cnt_back (f : Int → Bool) {a t : Int} (h : t ≤ a) : cnt f (t - 1) (a - (t - 1)).toNat = (if f (t - 1) = true then 1 else 0) + cnt f t (a - t).toNat := by
  rw [show (a - (t - 1)).toNat = (a - t).toNat + 1 from by omega, cnt_left, show t - 1 + 1 = t from by omega]
/-- As 'foundV', but down from a. -/
def downV (a : Int) (p : Nat → Bool) (n : Nat) : Int × Int := if least p n < n then (a - least p n, 0) else (0, 8)
theorem down_at {a t : Int} {p : Nat → Bool} {n : Nat} (h1 : t ≤ a) (h2 : (a - t).toNat < n) (h3 : ∀ i, i < (a - t).toNat → p i = false) (h4 : p (a - t).toNat = true) : downV a p n = (t, 0) := by
  have e := least_is (Nat.le_of_lt h2) h3 (fun _ => h4)
  unfold downV
  rw [e, if_pos h2]; congr 1; omega
theorem down_none {a : Int} {p : Nat → Bool} {n : Nat} (h3 : ∀ i, i < n → p i = false) : downV a p n = (0, 8) := by
  have e := least_is (Nat.le_refl n) h3 (fun h => absurd h (Nat.lt_irrefl _))
  unfold downV
  rw [e, if_neg (Nat.lt_irrefl _)]
theorem latestV_eq (P : Int) (S D : List (Int × Int)) (t k : Int) : latestV P S D t k = if (validB P S D && (timeB t && timeB k)) = true then downV t (fun i => decide (k ≤ cnt (openI P S D) (t - i) i)) (t + 1).toNat else (0, errI (validB P S D) (timeB t && timeB k)) := rfl
end
end Go.Proofs.Ytdcncalcncomoaa
