/- Contracts of the calendar: checked, Open, Work, and the reference's check, Open, Work, Next, Finish, Latest. -/
import Derived.Test.YtdcncalcncomoaaCal2
namespace Go.Proofs.Ytdcncalcncomoaa
open Go.RowKit
set_option linter.unusedVariables false

/-- A calendar in memory. -/
structure IsCal (w : World) (P : Int) (A : Option Addr) (n c : Nat) (B : Option Addr) (m d : Nat) (S D : List (Int × Int)) : Prop where
  n : n = S.length
  m : m = D.length
  s : IsIvs w A c S
  d : IsIvs w B d D
  ns : S.length < 4611686018427387904
  nd : D.length < 4611686018427387904
theorem IsCal.of {w w' : World} {P : Int} {A B : Option Addr} {n c m d : Nat} {S D : List (Int × Int)} (h : IsCal w P A n c B m d S D) (hs : SinceOf w w') : IsCal w' P A n c B m d S D :=
  ⟨h.n, h.m, h.s.of hs, h.d.of hs, h.ns, h.nd⟩
def checkB (a b : Int) : Bool := decide (0 ≤ a) && decide (a ≤ b) && decide (b ≤ 1000000)
def errI (v c : Bool) : Int := if v = true then (if c = true then 0 else 2) else 1
structure GoodCal (P : Int) (S D : List (Int × Int)) : Prop where
  p1 : 1 ≤ P
  p2 : P ≤ 10000
  s : ascI P (-1) S = true
  d : ascI 1000000 (-1) D = true
  s20 : S.length ≤ 20
  d20 : D.length ≤ 20
theorem validB_iff {P : Int} {S D : List (Int × Int)} : validB P S D = true ↔ GoodCal P S D := by
  unfold validB spansB
  simp only [Bool.and_eq_true, decide_eq_true_eq]
  constructor
  · rintro ⟨⟨⟨h1, h2⟩, h3, h4⟩, h5, h6⟩; exact ⟨h1, h2, h3, h5, by omega, by omega⟩
  · rintro ⟨h1, h2, h3, h5, h4, h6⟩; exact ⟨⟨⟨h1, h2⟩, h3, by omega⟩, h5, by omega⟩
theorem checkB_iff {a b : Int} : checkB a b = true ↔ 0 ≤ a ∧ a ≤ b ∧ b ≤ 1000000 := by unfold checkB; simp [and_assoc]
theorem timeB_iff {a : Int} : timeB a = true ↔ 0 ≤ a ∧ a ≤ 1000000 := by unfold timeB; simp
theorem timeB_not {a : Int} : timeB a = false ↔ ¬ (0 ≤ a ∧ a ≤ 1000000) := by rw [← timeB_iff, Bool.not_eq_true]
theorem checkB_not {a b : Int} : checkB a b = false ↔ ¬ (0 ≤ a ∧ a ≤ b ∧ b ≤ 1000000) := by rw [← checkB_iff, Bool.not_eq_true]

section
variable {P : Int} {A B : Option Addr} {n c m d : Nat} {S D : List (Int × Int)} {w : World}
theorem IsCal.valid (h : IsCal w P A n c B m d S D) {v : Bool} (hv : validB P S D = v) : ∀ W, SinceOf w W → Gives Try.prog 67 #[CalV P A n c B m d] W (.bool v) := by
  obtain ⟨rfl, rfl, h1, h2, h3, h4⟩ := h
  intro W hW; subst hv; exact valid_any P A B c d S D W (h1.of hW) (h2.of hW) h3 h4
theorem IsCal.refValid (h : IsCal w P A n c B m d S D) {v : Bool} (hv : validB P S D = v) : ∀ W, SinceOf w W → Gives Try.prog 57 #[CalV P A n c B m d] W (.bool v) := by
  obtain ⟨rfl, rfl, h1, h2, h3, h4⟩ := h
  intro W hW; subst hv; exact refValid_any P A B c d S D W (h1.of hW) (h2.of hW) h3 h4
theorem IsCal.work (h : IsCal w P A n c B m d S D) (g : GoodCal P S D) : ∀ W, SinceOf w W → ∀ a b, 0 ≤ a → a ≤ b → b ≤ 2000000 → Gives Try.prog 94 #[CalV P A n c B m d, .int .i64 a, .int .i64 b] W (.int .i64 (cnt (openI P S D) a (b - a).toNat)) := by
  obtain ⟨rfl, rfl, h1, h2, h3, h4⟩ := h
  intro W hW a b h0 hab hb
  have := work_any P a b A B c d S D W (h1.of hW) (h2.of hW) h3 h4 g.p1 g.p2 h0 hab hb g.s g.d
  rwa [show workI P S D a b = cnt (openI P S D) a (b - a).toNat from by rw [← workI_cnt g.p1 g.s g.d a (b - a).toNat]; congr 1; omega] at this
theorem IsCal.refOpen (h : IsCal w P A n c B m d S D) (g : GoodCal P S D) : ∀ W, SinceOf w W → ∀ t, 0 ≤ t → t ≤ 2000000 → Gives Try.prog 39 #[CalV P A n c B m d, .int .i64 t] W (.bool (openI P S D t)) := by
  obtain ⟨rfl, rfl, h1, h2, h3, h4⟩ := h
  intro W hW t h0 ht
  exact refOpen_any P t A B c d S D W (h1.of hW) (h2.of hW) h3 h4 g.p1 g.p2 h0 ht

theorem checked_any (a b : Int) (h : IsCal w P A n c B m d S D) : Gives Try.prog 95 #[CalV P A n c B m d, .int .i64 a, .int .i64 b] w (.int .i64 (errI (validB P S D) (checkB a b))) := by
  apply Gives.ret
  cases hv : validB P S D
  · have V := h.valid hv
    clear h hv
    go_enter Try.func95, Try.ntmps95
    go_wp2_with fail
    refine (V _ (by (repeat (first | (with_reducible exact SinceOf.refl _) | (with_reducible assumption) | (with_reducible refine SinceOf.alloc ?_ _) | (with_reducible refine SinceOf.drew ?_) | (with_reducible refine SinceOf.drewN ?_ _) | (with_reducible refine SinceOf.later ?_ _) | (with_reducible refine SinceOf.further ?_ _) | (with_reducible refine SinceOf.setCell ?_ (by first | exact Nat.le_refl _ | (simp; done) | omega | (simp; omega)) _))))).calls.mono ?_
    rintro e _ ⟨rfl, x1, rfl⟩
    go_wp2_with fail
    go_returns
    exact ⟨rfl, by (repeat (first | (with_reducible exact LaterOf.refl _) | (with_reducible refine LaterOf.alloc ?_ _) | (with_reducible refine LaterOf.drew ?_) | (with_reducible refine LaterOf.drewN ?_ _) | (with_reducible refine LaterOf.later ?_ _) | (with_reducible refine LaterOf.setCell ?_ (by first | exact Nat.le_refl _ | (simp; done) | omega | (simp; omega)) _)))⟩
  · have V := h.valid hv
    clear h hv
    cases hc : checkB a b
    · have key : timeB a = false ∨ (timeB a = true ∧ timeB b = false) ∨ (timeB a = true ∧ timeB b = true ∧ decide (b < a) = true) := by
        rw [checkB_not] at hc
        simp only [timeB_iff, timeB_not, decide_eq_true_eq]; omega
      clear hc
      rcases key with h1 | ⟨h1, h2⟩ | ⟨h1, h2, h3⟩
      · go_enter Try.func95, Try.ntmps95
        go_wp2_with fail
        refine (V _ (by (repeat (first | (with_reducible exact SinceOf.refl _) | (with_reducible assumption) | (with_reducible refine SinceOf.alloc ?_ _) | (with_reducible refine SinceOf.drew ?_) | (with_reducible refine SinceOf.drewN ?_ _) | (with_reducible refine SinceOf.later ?_ _) | (with_reducible refine SinceOf.further ?_ _) | (with_reducible refine SinceOf.setCell ?_ (by first | exact Nat.le_refl _ | (simp; done) | omega | (simp; omega)) _))))).calls.mono ?_
        rintro e _ ⟨rfl, x1, rfl⟩
        go_wp2_with fail
        refine (time_any _ _).mono ?_
        rintro e _ ⟨rfl, rfl⟩
        go_wp2_with fail
        go_returns
        exact ⟨rfl, by (repeat (first | (with_reducible exact LaterOf.refl _) | (with_reducible refine LaterOf.alloc ?_ _) | (with_reducible refine LaterOf.drew ?_) | (with_reducible refine LaterOf.drewN ?_ _) | (with_reducible refine LaterOf.later ?_ _) | (with_reducible refine LaterOf.setCell ?_ (by first | exact Nat.le_refl _ | (simp; done) | omega | (simp; omega)) _)))⟩
      all_goals
        go_enter Try.func95, Try.ntmps95
        go_wp2_with fail
        refine (V _ (by (repeat (first | (with_reducible exact SinceOf.refl _) | (with_reducible assumption) | (with_reducible refine SinceOf.alloc ?_ _) | (with_reducible refine SinceOf.drew ?_) | (with_reducible refine SinceOf.drewN ?_ _) | (with_reducible refine SinceOf.later ?_ _) | (with_reducible refine SinceOf.further ?_ _) | (with_reducible refine SinceOf.setCell ?_ (by first | exact Nat.le_refl _ | (simp; done) | omega | (simp; omega)) _))))).calls.mono ?_
        rintro e _ ⟨rfl, x1, rfl⟩
        go_wp2_with fail
        refine (time_any _ _).mono ?_
        rintro e _ ⟨rfl, rfl⟩
        go_wp2_with fail
        refine (time_any _ _).mono ?_
        rintro e _ ⟨rfl, rfl⟩
        go_wp2_with fail
        go_returns
        exact ⟨rfl, by (repeat (first | (with_reducible exact LaterOf.refl _) | (with_reducible refine LaterOf.alloc ?_ _) | (with_reducible refine LaterOf.drew ?_) | (with_reducible refine LaterOf.drewN ?_ _) | (with_reducible refine LaterOf.later ?_ _) | (with_reducible refine LaterOf.setCell ?_ (by first | exact Nat.le_refl _ | (simp; done) | omega | (simp; omega)) _)))⟩
    · have key : timeB a = true ∧ timeB b = true ∧ decide (b < a) = false := by
        rw [checkB_iff] at hc
        simp only [timeB_iff, decide_eq_false_iff_not]; omega
      clear hc
      obtain ⟨h1, h2, h3⟩ := key
      go_enter Try.func95, Try.ntmps95
      go_wp2_with fail
      refine (V _ (by (repeat (first | (with_reducible exact SinceOf.refl _) | (with_reducible assumption) | (with_reducible refine SinceOf.alloc ?_ _) | (with_reducible refine SinceOf.drew ?_) | (with_reducible refine SinceOf.drewN ?_ _) | (with_reducible refine SinceOf.later ?_ _) | (with_reducible refine SinceOf.further ?_ _) | (with_reducible refine SinceOf.setCell ?_ (by first | exact Nat.le_refl _ | (simp; done) | omega | (simp; omega)) _))))).calls.mono ?_
      rintro e _ ⟨rfl, x1, rfl⟩
      go_wp2_with fail
      refine (time_any _ _).mono ?_
      rintro e _ ⟨rfl, rfl⟩
      go_wp2_with fail
      refine (time_any _ _).mono ?_
      rintro e _ ⟨rfl, rfl⟩
      go_wp2_with fail
      go_returns
      exact ⟨rfl, by (repeat (first | (with_reducible exact LaterOf.refl _) | (with_reducible refine LaterOf.alloc ?_ _) | (with_reducible refine LaterOf.drew ?_) | (with_reducible refine LaterOf.drewN ?_ _) | (with_reducible refine LaterOf.later ?_ _) | (with_reducible refine LaterOf.setCell ?_ (by first | exact Nat.le_refl _ | (simp; done) | omega | (simp; omega)) _)))⟩

theorem refCheck_any (a b k : Int) (h : IsCal w P A n c B m d S D) : Gives Try.prog 38 #[CalV P A n c B m d, .int .i64 a, .int .i64 b, .int .i64 k] w (.int .i64 (errI (validB P S D) (checkB a b && timeB k))) := by
  apply Gives.ret
  cases hv : validB P S D
  · have V := h.refValid hv
    clear h hv
    go_enter Try.func38, Try.ntmps38
    go_wp2_with fail
    refine (V _ (by (repeat (first | (with_reducible exact SinceOf.refl _) | (with_reducible assumption) | (with_reducible refine SinceOf.alloc ?_ _) | (with_reducible refine SinceOf.drew ?_) | (with_reducible refine SinceOf.drewN ?_ _) | (with_reducible refine SinceOf.later ?_ _) | (with_reducible refine SinceOf.further ?_ _) | (with_reducible refine SinceOf.setCell ?_ (by first | exact Nat.le_refl _ | (simp; done) | omega | (simp; omega)) _))))).calls.mono ?_
    rintro e _ ⟨rfl, x1, rfl⟩
    go_wp2_with fail
    go_returns
    exact ⟨rfl, by (repeat (first | (with_reducible exact LaterOf.refl _) | (with_reducible refine LaterOf.alloc ?_ _) | (with_reducible refine LaterOf.drew ?_) | (with_reducible refine LaterOf.drewN ?_ _) | (with_reducible refine LaterOf.later ?_ _) | (with_reducible refine LaterOf.setCell ?_ (by first | exact Nat.le_refl _ | (simp; done) | omega | (simp; omega)) _)))⟩
  · have V := h.refValid hv
    clear h hv
    have key : (checkB a b && timeB k) = false ∧ (decide (a < 0) = true ∨ (decide (a < 0) = false ∧ decide (1000000 < b) = true) ∨ (decide (a < 0) = false ∧ decide (1000000 < b) = false ∧ decide (b < a) = true) ∨ (decide (a < 0) = false ∧ decide (1000000 < b) = false ∧ decide (b < a) = false ∧ decide (k < 0) = true) ∨
          (decide (a < 0) = false ∧ decide (1000000 < b) = false ∧ decide (b < a) = false ∧ decide (k < 0) = false ∧ decide (1000000 < k) = true)) ∨
        (checkB a b && timeB k) = true ∧ decide (a < 0) = false ∧ decide (1000000 < b) = false ∧ decide (b < a) = false ∧ decide (k < 0) = false ∧ decide (1000000 < k) = false := by
      cases h1 : checkB a b <;> cases h2 : timeB k <;> simp only [checkB_iff, checkB_not, timeB_iff, timeB_not] at h1 h2 <;> simp only [Bool.and_true, Bool.and_false, decide_eq_true_eq, decide_eq_false_iff_not, true_and, Bool.false_eq_true, Bool.true_eq_false, false_and, or_false, false_or] <;> omega
    rcases key with ⟨e, hw⟩ | ⟨e, h1, h2, h3, h4, h5⟩
    · rw [e]
      clear e
      rcases hw with h1 | ⟨h1, h2⟩ | ⟨h1, h2, h3⟩ | ⟨h1, h2, h3, h4⟩ | ⟨h1, h2, h3, h4, h5⟩
      all_goals
        go_enter Try.func38, Try.ntmps38
        go_wp2_with fail
        refine (V _ (by (repeat (first | (with_reducible exact SinceOf.refl _) | (with_reducible assumption) | (with_reducible refine SinceOf.alloc ?_ _) | (with_reducible refine SinceOf.drew ?_) | (with_reducible refine SinceOf.drewN ?_ _) | (with_reducible refine SinceOf.later ?_ _) | (with_reducible refine SinceOf.further ?_ _) | (with_reducible refine SinceOf.setCell ?_ (by first | exact Nat.le_refl _ | (simp; done) | omega | (simp; omega)) _))))).calls.mono ?_
        rintro e _ ⟨rfl, x1, rfl⟩
        go_wp2_with fail
        go_returns
        exact ⟨rfl, by (repeat (first | (with_reducible exact LaterOf.refl _) | (with_reducible refine LaterOf.alloc ?_ _) | (with_reducible refine LaterOf.drew ?_) | (with_reducible refine LaterOf.drewN ?_ _) | (with_reducible refine LaterOf.later ?_ _) | (with_reducible refine LaterOf.setCell ?_ (by first | exact Nat.le_refl _ | (simp; done) | omega | (simp; omega)) _)))⟩
    · rw [e]
      clear e
      go_enter Try.func38, Try.ntmps38
      go_wp2_with fail
      refine (V _ (by (repeat (first | (with_reducible exact SinceOf.refl _) | (with_reducible assumption) | (with_reducible refine SinceOf.alloc ?_ _) | (with_reducible refine SinceOf.drew ?_) | (with_reducible refine SinceOf.drewN ?_ _) | (with_reducible refine SinceOf.later ?_ _) | (with_reducible refine SinceOf.further ?_ _) | (with_reducible refine SinceOf.setCell ?_ (by first | exact Nat.le_refl _ | (simp; done) | omega | (simp; omega)) _))))).calls.mono ?_
      rintro e _ ⟨rfl, x1, rfl⟩
      go_wp2_with fail
      go_returns
      exact ⟨rfl, by (repeat (first | (with_reducible exact LaterOf.refl _) | (with_reducible refine LaterOf.alloc ?_ _) | (with_reducible refine LaterOf.drew ?_) | (with_reducible refine LaterOf.drewN ?_ _) | (with_reducible refine LaterOf.later ?_ _) | (with_reducible refine LaterOf.setCell ?_ (by first | exact Nat.le_refl _ | (simp; done) | omega | (simp; omega)) _)))⟩
end
end Go.Proofs.Ytdcncalcncomoaa
/- Contracts of the calendar: Open, Work, and the reference's Open, Work, Next, Finish, Latest. -/
namespace Go.Proofs.Ytdcncalcncomoaa
open Go.RowKit
set_option linter.unusedVariables false

def openV (P : Int) (S D : List (Int × Int)) (t : Int) : Bool := validB P S D && timeB t && openI P S D t
def pairV (x : Int × Int) : Value := .tuple #[.int .i64 x.1, .int .i64 x.2]
def workV (P : Int) (S D : List (Int × Int)) (a b : Int) : Int × Int :=
  if (validB P S D && checkB a b) = true then (cnt (openI P S D) a (b - a).toNat, 0) else (0, errI (validB P S D) (checkB a b))
/-- The first place of n that is of a kind, behind a; none: error 8. -/
def foundV (a : Int) (p : Nat → Bool) (n : Nat) : Int × Int := if least p n < n then (a + least p n, 0) else (0, 8)
def nextV (P : Int) (S D : List (Int × Int)) (t : Int) : Int × Int :=
  if (validB P S D && timeB t) = true then foundV t (fun i => openI P S D (t + i)) (1000001 - t).toNat else (0, errI (validB P S D) (timeB t))
def finishV (P : Int) (S D : List (Int × Int)) (t k : Int) : Int × Int :=
  if (validB P S D && (timeB t && timeB k)) = true then foundV t (fun i => decide (k ≤ cnt (openI P S D) t i)) (1000001 - t).toNat else (0, errI (validB P S D) (timeB t && timeB k))
def latestV (P : Int) (S D : List (Int × Int)) (t k : Int) : Int × Int :=
  if (validB P S D && (timeB t && timeB k)) = true then (if least (fun i => decide (k ≤ cnt (openI P S D) (t - i) i)) (t + 1).toNat < (t + 1).toNat then (t - least (fun i => decide (k ≤ cnt (openI P S D) (t - i) i)) (t + 1).toNat, 0) else (0, 8))
  else (0, errI (validB P S D) (timeB t && timeB k))
theorem checkB_self (t : Int) : checkB t t = timeB t := by unfold checkB timeB; simp
theorem pair_eq {a b : Int} {x : Int × Int} (h : x = (a, b)) : Ending.returned (.tuple #[.int .i64 a, .int .i64 b]) = .returned (pairV x) := by rw [h]; rfl

section
variable {P : Int} {A B : Option Addr} {n c m d : Nat} {S D : List (Int × Int)} {w : World}
theorem open_any (t : Int) (h : IsCal w P A n c B m d S D) : Gives Try.prog 82 #[CalV P A n c B m d, .int .i64 t] w (.bool (openV P S D t)) := by
  apply Gives.ret
  unfold openV
  cases hv : validB P S D
  · have V := h.valid hv
    clear h hv
    go_enter Try.func82, Try.ntmps82
    go_wp2_with fail
    refine (V _ (by (repeat (first | (with_reducible exact SinceOf.refl _) | (with_reducible assumption) | (with_reducible refine SinceOf.alloc ?_ _) | (with_reducible refine SinceOf.drew ?_) | (with_reducible refine SinceOf.drewN ?_ _) | (with_reducible refine SinceOf.later ?_ _) | (with_reducible refine SinceOf.further ?_ _) | (with_reducible refine SinceOf.setCell ?_ (by first | exact Nat.le_refl _ | (simp; done) | omega | (simp; omega)) _))))).calls.mono ?_
    rintro e _ ⟨rfl, x1, rfl⟩
    go_wp2_with fail
    go_returns
    exact ⟨rfl, by (repeat (first | (with_reducible exact LaterOf.refl _) | (with_reducible refine LaterOf.alloc ?_ _) | (with_reducible refine LaterOf.drew ?_) | (with_reducible refine LaterOf.drewN ?_ _) | (with_reducible refine LaterOf.later ?_ _) | (with_reducible refine LaterOf.setCell ?_ (by first | exact Nat.le_refl _ | (simp; done) | omega | (simp; omega)) _)))⟩
  · have V := h.valid hv
    have g := validB_iff.1 hv
    cases ht : timeB t
    · clear h hv
      go_enter Try.func82, Try.ntmps82
      go_wp2_with fail
      refine (V _ (by (repeat (first | (with_reducible exact SinceOf.refl _) | (with_reducible assumption) | (with_reducible refine SinceOf.alloc ?_ _) | (with_reducible refine SinceOf.drew ?_) | (with_reducible refine SinceOf.drewN ?_ _) | (with_reducible refine SinceOf.later ?_ _) | (with_reducible refine SinceOf.further ?_ _) | (with_reducible refine SinceOf.setCell ?_ (by first | exact Nat.le_refl _ | (simp; done) | omega | (simp; omega)) _))))).calls.mono ?_
      rintro e _ ⟨rfl, x1, rfl⟩
      go_wp2_with fail
      refine (time_any _ _).mono ?_
      rintro e _ ⟨rfl, rfl⟩
      go_wp2_with fail
      go_returns
      exact ⟨rfl, by (repeat (first | (with_reducible exact LaterOf.refl _) | (with_reducible refine LaterOf.alloc ?_ _) | (with_reducible refine LaterOf.drew ?_) | (with_reducible refine LaterOf.drewN ?_ _) | (with_reducible refine LaterOf.later ?_ _) | (with_reducible refine LaterOf.setCell ?_ (by first | exact Nat.le_refl _ | (simp; done) | omega | (simp; omega)) _)))⟩
    · obtain ⟨h0, h1⟩ := timeB_iff.1 ht
      have W := fun W hW => h.work g W hW t (t + 1) h0 (by omega) (by omega)
      have e1 : (t + 1 - t).toNat = 1 := by omega
      rw [e1] at W
      simp only [cnt] at W
      rw [show t + ((0 : Nat) : Int) = t from by omega, Int.zero_add] at W
      clear h hv e1 g
      cases ho : openI P S D t
      all_goals
        rw [ho] at W
        clear ho
        simp only [if_true, Bool.false_eq_true, if_false] at W
        go_enter Try.func82, Try.ntmps82
        go_wp2_with fail
        refine (V _ (by (repeat (first | (with_reducible exact SinceOf.refl _) | (with_reducible assumption) | (with_reducible refine SinceOf.alloc ?_ _) | (with_reducible refine SinceOf.drew ?_) | (with_reducible refine SinceOf.drewN ?_ _) | (with_reducible refine SinceOf.later ?_ _) | (with_reducible refine SinceOf.further ?_ _) | (with_reducible refine SinceOf.setCell ?_ (by first | exact Nat.le_refl _ | (simp; done) | omega | (simp; omega)) _))))).calls.mono ?_
        rintro e _ ⟨rfl, x1, rfl⟩
        go_wp2_with fail
        refine (time_any _ _).mono ?_
        rintro e _ ⟨rfl, rfl⟩
        go_wp2_with fail
        refine (W _ (by (repeat (first | (with_reducible exact SinceOf.refl _) | (with_reducible assumption) | (with_reducible refine SinceOf.alloc ?_ _) | (with_reducible refine SinceOf.drew ?_) | (with_reducible refine SinceOf.drewN ?_ _) | (with_reducible refine SinceOf.later ?_ _) | (with_reducible refine SinceOf.further ?_ _) | (with_reducible refine SinceOf.setCell ?_ (by first | exact Nat.le_refl _ | (simp; done) | omega | (simp; omega)) _))))).calls.mono ?_
        rintro e _ ⟨rfl, x2, rfl⟩
        go_wp2_with fail
        go_returns
        exact ⟨rfl, by (repeat (first | (with_reducible exact LaterOf.refl _) | (with_reducible refine LaterOf.alloc ?_ _) | (with_reducible refine LaterOf.drew ?_) | (with_reducible refine LaterOf.drewN ?_ _) | (with_reducible refine LaterOf.later ?_ _) | (with_reducible refine LaterOf.setCell ?_ (by first | exact Nat.le_refl _ | (simp; done) | omega | (simp; omega)) _)))⟩
theorem refOpenAt_any (t : Int) (h : IsCal w P A n c B m d S D) : Gives Try.prog 58 #[CalV P A n c B m d, .int .i64 t] w (.bool (openV P S D t)) := by
  apply Gives.ret
  unfold openV
  cases hv : validB P S D
  · have V := h.refValid hv
    clear h hv
    go_enter Try.func58, Try.ntmps58
    go_wp2_with fail
    refine (V _ (by (repeat (first | (with_reducible exact SinceOf.refl _) | (with_reducible assumption) | (with_reducible refine SinceOf.alloc ?_ _) | (with_reducible refine SinceOf.drew ?_) | (with_reducible refine SinceOf.drewN ?_ _) | (with_reducible refine SinceOf.later ?_ _) | (with_reducible refine SinceOf.further ?_ _) | (with_reducible refine SinceOf.setCell ?_ (by first | exact Nat.le_refl _ | (simp; done) | omega | (simp; omega)) _))))).calls.mono ?_
    rintro e _ ⟨rfl, x1, rfl⟩
    go_wp2_with fail
    go_returns
    exact ⟨rfl, by (repeat (first | (with_reducible exact LaterOf.refl _) | (with_reducible refine LaterOf.alloc ?_ _) | (with_reducible refine LaterOf.drew ?_) | (with_reducible refine LaterOf.drewN ?_ _) | (with_reducible refine LaterOf.later ?_ _) | (with_reducible refine LaterOf.setCell ?_ (by first | exact Nat.le_refl _ | (simp; done) | omega | (simp; omega)) _)))⟩
  · have V := h.refValid hv
    have g := validB_iff.1 hv
    have key : (timeB t = false ∧ (decide (0 ≤ t) = false ∨ (decide (0 ≤ t) = true ∧ decide (t ≤ 1000000) = false))) ∨ (timeB t = true ∧ decide (0 ≤ t) = true ∧ decide (t ≤ 1000000) = true ∧ 0 ≤ t ∧ t ≤ 1000000) := by
      simp only [timeB_iff, timeB_not, decide_eq_true_eq, decide_eq_false_iff_not]; omega
    have W := h.refOpen g
    clear h hv g
    rcases key with ⟨e, h1 | ⟨h1, h2⟩⟩ | ⟨e, h1, h2, h3, h4⟩
    · rw [e]; clear e
      go_enter Try.func58, Try.ntmps58
      go_wp2_with fail
      refine (V _ (by (repeat (first | (with_reducible exact SinceOf.refl _) | (with_reducible assumption) | (with_reducible refine SinceOf.alloc ?_ _) | (with_reducible refine SinceOf.drew ?_) | (with_reducible refine SinceOf.drewN ?_ _) | (with_reducible refine SinceOf.later ?_ _) | (with_reducible refine SinceOf.further ?_ _) | (with_reducible refine SinceOf.setCell ?_ (by first | exact Nat.le_refl _ | (simp; done) | omega | (simp; omega)) _))))).calls.mono ?_
      rintro e _ ⟨rfl, x1, rfl⟩
      go_wp2_with fail
      go_returns
      exact ⟨rfl, by (repeat (first | (with_reducible exact LaterOf.refl _) | (with_reducible refine LaterOf.alloc ?_ _) | (with_reducible refine LaterOf.drew ?_) | (with_reducible refine LaterOf.drewN ?_ _) | (with_reducible refine LaterOf.later ?_ _) | (with_reducible refine LaterOf.setCell ?_ (by first | exact Nat.le_refl _ | (simp; done) | omega | (simp; omega)) _)))⟩
    · rw [e]; clear e
      go_enter Try.func58, Try.ntmps58
      go_wp2_with fail
      refine (V _ (by (repeat (first | (with_reducible exact SinceOf.refl _) | (with_reducible assumption) | (with_reducible refine SinceOf.alloc ?_ _) | (with_reducible refine SinceOf.drew ?_) | (with_reducible refine SinceOf.drewN ?_ _) | (with_reducible refine SinceOf.later ?_ _) | (with_reducible refine SinceOf.further ?_ _) | (with_reducible refine SinceOf.setCell ?_ (by first | exact Nat.le_refl _ | (simp; done) | omega | (simp; omega)) _))))).calls.mono ?_
      rintro e _ ⟨rfl, x1, rfl⟩
      go_wp2_with fail
      go_returns
      exact ⟨rfl, by (repeat (first | (with_reducible exact LaterOf.refl _) | (with_reducible refine LaterOf.alloc ?_ _) | (with_reducible refine LaterOf.drew ?_) | (with_reducible refine LaterOf.drewN ?_ _) | (with_reducible refine LaterOf.later ?_ _) | (with_reducible refine LaterOf.setCell ?_ (by first | exact Nat.le_refl _ | (simp; done) | omega | (simp; omega)) _)))⟩
    · rw [e]; clear e
      go_enter Try.func58, Try.ntmps58
      go_wp2_with fail
      refine (V _ (by (repeat (first | (with_reducible exact SinceOf.refl _) | (with_reducible assumption) | (with_reducible refine SinceOf.alloc ?_ _) | (with_reducible refine SinceOf.drew ?_) | (with_reducible refine SinceOf.drewN ?_ _) | (with_reducible refine SinceOf.later ?_ _) | (with_reducible refine SinceOf.further ?_ _) | (with_reducible refine SinceOf.setCell ?_ (by first | exact Nat.le_refl _ | (simp; done) | omega | (simp; omega)) _))))).calls.mono ?_
      rintro e _ ⟨rfl, x1, rfl⟩
      go_wp2_with fail
      refine (W _ (by (repeat (first | (with_reducible exact SinceOf.refl _) | (with_reducible assumption) | (with_reducible refine SinceOf.alloc ?_ _) | (with_reducible refine SinceOf.drew ?_) | (with_reducible refine SinceOf.drewN ?_ _) | (with_reducible refine SinceOf.later ?_ _) | (with_reducible refine SinceOf.further ?_ _) | (with_reducible refine SinceOf.setCell ?_ (by first | exact Nat.le_refl _ | (simp; done) | omega | (simp; omega)) _)))) t h3 (by omega)).calls.mono ?_
      rintro e _ ⟨rfl, x2, rfl⟩
      go_wp2_with fail
      go_returns
      exact ⟨rfl, by (repeat (first | (with_reducible exact LaterOf.refl _) | (with_reducible refine LaterOf.alloc ?_ _) | (with_reducible refine LaterOf.drew ?_) | (with_reducible refine LaterOf.drewN ?_ _) | (with_reducible refine LaterOf.later ?_ _) | (with_reducible refine LaterOf.setCell ?_ (by first | exact Nat.le_refl _ | (simp; done) | omega | (simp; omega)) _)))⟩
theorem work_law (a b : Int) (h : IsCal w P A n c B m d S D) : Gives Try.prog 97 #[CalV P A n c B m d, .int .i64 a, .int .i64 b] w (pairV (workV P S D a b)) := by
  apply Gives.ret
  have K := fun W hW => checked_any (w := W) a b (h.of hW)
  unfold workV
  cases hv : validB P S D <;> cases hc : checkB a b
  · rw [hv, hc] at K
    clear h hv hc
    go_enter Try.func97, Try.ntmps97
    go_wp2_with fail
    refine (K _ (by (repeat (first | (with_reducible exact SinceOf.refl _) | (with_reducible assumption) | (with_reducible refine SinceOf.alloc ?_ _) | (with_reducible refine SinceOf.drew ?_) | (with_reducible refine SinceOf.drewN ?_ _) | (with_reducible refine SinceOf.later ?_ _) | (with_reducible refine SinceOf.further ?_ _) | (with_reducible refine SinceOf.setCell ?_ (by first | exact Nat.le_refl _ | (simp; done) | omega | (simp; omega)) _))))).calls.mono ?_
    rintro e _ ⟨rfl, x1, rfl⟩
    simp only [errI, Bool.false_eq_true, if_false]
    go_wp2_with fail
    go_returns
    exact ⟨rfl, by (repeat (first | (with_reducible exact LaterOf.refl _) | (with_reducible refine LaterOf.alloc ?_ _) | (with_reducible refine LaterOf.drew ?_) | (with_reducible refine LaterOf.drewN ?_ _) | (with_reducible refine LaterOf.later ?_ _) | (with_reducible refine LaterOf.setCell ?_ (by first | exact Nat.le_refl _ | (simp; done) | omega | (simp; omega)) _)))⟩
  · rw [hv, hc] at K
    clear h hv hc
    go_enter Try.func97, Try.ntmps97
    go_wp2_with fail
    refine (K _ (by (repeat (first | (with_reducible exact SinceOf.refl _) | (with_reducible assumption) | (with_reducible refine SinceOf.alloc ?_ _) | (with_reducible refine SinceOf.drew ?_) | (with_reducible refine SinceOf.drewN ?_ _) | (with_reducible refine SinceOf.later ?_ _) | (with_reducible refine SinceOf.further ?_ _) | (with_reducible refine SinceOf.setCell ?_ (by first | exact Nat.le_refl _ | (simp; done) | omega | (simp; omega)) _))))).calls.mono ?_
    rintro e _ ⟨rfl, x1, rfl⟩
    simp only [errI, Bool.false_eq_true, if_false, if_true]
    go_wp2_with fail
    go_returns
    exact ⟨rfl, by (repeat (first | (with_reducible exact LaterOf.refl _) | (with_reducible refine LaterOf.alloc ?_ _) | (with_reducible refine LaterOf.drew ?_) | (with_reducible refine LaterOf.drewN ?_ _) | (with_reducible refine LaterOf.later ?_ _) | (with_reducible refine LaterOf.setCell ?_ (by first | exact Nat.le_refl _ | (simp; done) | omega | (simp; omega)) _)))⟩
  · rw [hv, hc] at K
    clear h hv hc
    go_enter Try.func97, Try.ntmps97
    go_wp2_with fail
    refine (K _ (by (repeat (first | (with_reducible exact SinceOf.refl _) | (with_reducible assumption) | (with_reducible refine SinceOf.alloc ?_ _) | (with_reducible refine SinceOf.drew ?_) | (with_reducible refine SinceOf.drewN ?_ _) | (with_reducible refine SinceOf.later ?_ _) | (with_reducible refine SinceOf.further ?_ _) | (with_reducible refine SinceOf.setCell ?_ (by first | exact Nat.le_refl _ | (simp; done) | omega | (simp; omega)) _))))).calls.mono ?_
    rintro e _ ⟨rfl, x1, rfl⟩
    simp only [errI, Bool.false_eq_true, if_false, if_true]
    go_wp2_with fail
    go_returns
    exact ⟨rfl, by (repeat (first | (with_reducible exact LaterOf.refl _) | (with_reducible refine LaterOf.alloc ?_ _) | (with_reducible refine LaterOf.drew ?_) | (with_reducible refine LaterOf.drewN ?_ _) | (with_reducible refine LaterOf.later ?_ _) | (with_reducible refine LaterOf.setCell ?_ (by first | exact Nat.le_refl _ | (simp; done) | omega | (simp; omega)) _)))⟩
  · rw [hv, hc] at K
    have g := validB_iff.1 hv
    obtain ⟨h0, h1, h2⟩ := checkB_iff.1 hc
    have W := fun W hW => h.work g W hW a b h0 h1 (by omega)
    clear h hv hc g
    go_enter Try.func97, Try.ntmps97
    go_wp2_with fail
    refine (K _ (by (repeat (first | (with_reducible exact SinceOf.refl _) | (with_reducible assumption) | (with_reducible refine SinceOf.alloc ?_ _) | (with_reducible refine SinceOf.drew ?_) | (with_reducible refine SinceOf.drewN ?_ _) | (with_reducible refine SinceOf.later ?_ _) | (with_reducible refine SinceOf.further ?_ _) | (with_reducible refine SinceOf.setCell ?_ (by first | exact Nat.le_refl _ | (simp; done) | omega | (simp; omega)) _))))).calls.mono ?_
    rintro e _ ⟨rfl, x1, rfl⟩
    simp only [errI, if_true]
    go_wp2_with fail
    refine (W _ (by (repeat (first | (with_reducible exact SinceOf.refl _) | (with_reducible assumption) | (with_reducible refine SinceOf.alloc ?_ _) | (with_reducible refine SinceOf.drew ?_) | (with_reducible refine SinceOf.drewN ?_ _) | (with_reducible refine SinceOf.later ?_ _) | (with_reducible refine SinceOf.further ?_ _) | (with_reducible refine SinceOf.setCell ?_ (by first | exact Nat.le_refl _ | (simp; done) | omega | (simp; omega)) _))))).calls.mono ?_
    rintro e _ ⟨rfl, x2, rfl⟩
    go_wp2_with fail
    go_returns
    exact ⟨rfl, by (repeat (first | (with_reducible exact LaterOf.refl _) | (with_reducible refine LaterOf.alloc ?_ _) | (with_reducible refine LaterOf.drew ?_) | (with_reducible refine LaterOf.drewN ?_ _) | (with_reducible refine LaterOf.later ?_ _) | (with_reducible refine LaterOf.setCell ?_ (by first | exact Nat.le_refl _ | (simp; done) | omega | (simp; omega)) _)))⟩
end
end Go.Proofs.Ytdcncalcncomoaa
