/- Layer 15: Box, floor, Row of the program. -/
import Derived.Test.YtbienlhofkfdpaaMink5
import Derived.Test.YtbienlhofkfdpaaMinkP4
namespace Go.Proofs.Ytbienlhofkfdpaa
open Go.RowKit Go.Sort
set_option linter.unusedVariables false
set_option linter.unusedSimpArgs false
attribute [local go_sem ↓] Go.wp_at_zero Go.wp_at_succ

def boxV (r : List Pt) : Int × Int × Int × Int := if validB r then boxOf r else (0, 0, 0, 0)
set_option maxRecDepth 100000 in
set_option maxHeartbeats 4000000 in
theorem box_any (A : Option Addr) (c : Nat) (r : List (Int × Int)) (w : World) (h : IsVecs w A c r) (hlen : r.length ≤ 100000) :
    Gives Try.prog 70 #[.slice A r.length c] w (.tuple #[bb (boxV r).1 (boxV r).2.1 (boxV r).2.2.1 (boxV r).2.2.2, .bool (validB r)]) := by
  apply Gives.ret
  have V := fun W (hW : SinceOf w W) => valid_any A c r W (h.of hW) (by omega)
  have B := fun W (hW : SinceOf w W) => boxOf_any A c r W (h.of hW) (by omega)
  unfold boxV
  have he : validB r = true → r.isEmpty = false := fun hv => by
    have := (validB_iff.1 hv).1
    cases r
    · simp at this
    · rfl
  clear h
  cases hv : validB r
  · rw [hv] at V
    clear B he hv
    go_enter Try.func70, Try.ntmps70
    go_wp2_with fail
    refine (V _ (by (repeat (first | (with_reducible exact SinceOf.refl _) | (with_reducible assumption) | (with_reducible refine SinceOf.alloc ?_ _) | (with_reducible refine SinceOf.drew ?_) | (with_reducible refine SinceOf.drewN ?_ _) | (with_reducible refine SinceOf.later ?_ _) | (with_reducible refine SinceOf.further ?_ _) | (with_reducible refine SinceOf.setCell ?_ (by first | exact Nat.le_refl _ | (simp; done) | omega | (simp; omega)) _))))).calls.mono ?_
    rintro e _ ⟨rfl, x1, rfl⟩
    go_wp2_with fail
    refine bodyPost_ret (by simp [results, Try.results70, go_sem, *]; try rfl) rfl ?_
    exact ⟨rfl, by (repeat (first | (with_reducible exact LaterOf.refl _) | (with_reducible refine LaterOf.alloc ?_ _) | (with_reducible refine LaterOf.drew ?_) | (with_reducible refine LaterOf.drewN ?_ _) | (with_reducible refine LaterOf.later ?_ _) | (with_reducible refine LaterOf.setCell ?_ (by first | exact Nat.le_refl _ | (simp; done) | omega | (simp; omega)) _)))⟩
  · rw [he hv] at B
    rw [hv] at V
    rw [if_pos rfl]
    generalize boxOf r = b at *
    obtain ⟨b0, b1, b2, b3⟩ := b
    simp only at B
    clear he hv
    go_enter Try.func70, Try.ntmps70
    go_wp2_with fail
    refine (V _ (by (repeat (first | (with_reducible exact SinceOf.refl _) | (with_reducible assumption) | (with_reducible refine SinceOf.alloc ?_ _) | (with_reducible refine SinceOf.drew ?_) | (with_reducible refine SinceOf.drewN ?_ _) | (with_reducible refine SinceOf.later ?_ _) | (with_reducible refine SinceOf.further ?_ _) | (with_reducible refine SinceOf.setCell ?_ (by first | exact Nat.le_refl _ | (simp; done) | omega | (simp; omega)) _))))).calls.mono ?_
    rintro e _ ⟨rfl, x1, rfl⟩
    clear V
    go_wp2_with fail
    refine (B _ (by (repeat (first | (with_reducible exact SinceOf.refl _) | (with_reducible assumption) | (with_reducible refine SinceOf.alloc ?_ _) | (with_reducible refine SinceOf.drew ?_) | (with_reducible refine SinceOf.drewN ?_ _) | (with_reducible refine SinceOf.later ?_ _) | (with_reducible refine SinceOf.further ?_ _) | (with_reducible refine SinceOf.setCell ?_ (by first | exact Nat.le_refl _ | (simp; done) | omega | (simp; omega)) _))))).calls.mono ?_
    rintro e _ ⟨rfl, x2, rfl⟩
    clear B
    go_wp2_with fail
    refine bodyPost_ret (by simp [results, Try.results70, go_sem, *]; try rfl) rfl ?_
    exact ⟨rfl, by (repeat (first | (with_reducible exact LaterOf.refl _) | (with_reducible refine LaterOf.alloc ?_ _) | (with_reducible refine LaterOf.drew ?_) | (with_reducible refine LaterOf.drewN ?_ _) | (with_reducible refine LaterOf.later ?_ _) | (with_reducible refine LaterOf.setCell ?_ (by first | exact Nat.le_refl _ | (simp; done) | omega | (simp; omega)) _)))⟩
set_option maxRecDepth 100000 in
set_option maxHeartbeats 4000000 in
theorem refBox_any (A : Option Addr) (c : Nat) (r : List (Int × Int)) (w : World) (h : IsVecs w A c r) (hlen : r.length ≤ 100000) :
    Gives Try.prog 72 #[.slice A r.length c] w (.tuple #[bb (boxV r).1 (boxV r).2.1 (boxV r).2.2.1 (boxV r).2.2.2, .bool (validB r)]) := by
  apply Gives.ret
  have V := fun W (hW : SinceOf w W) => refValid_any A c r W (h.of hW) (by omega)
  have B := fun W (hW : SinceOf w W) => refBoxOf_any A c r W (h.of hW) (by omega)
  unfold boxV
  have he : validB r = true → r.isEmpty = false := fun hv => by
    have := (validB_iff.1 hv).1
    cases r
    · simp at this
    · rfl
  clear h
  cases hv : validB r
  · rw [hv] at V
    clear B he hv
    go_enter Try.func72, Try.ntmps72
    go_wp2_with fail
    refine (V _ (by (repeat (first | (with_reducible exact SinceOf.refl _) | (with_reducible assumption) | (with_reducible refine SinceOf.alloc ?_ _) | (with_reducible refine SinceOf.drew ?_) | (with_reducible refine SinceOf.drewN ?_ _) | (with_reducible refine SinceOf.later ?_ _) | (with_reducible refine SinceOf.further ?_ _) | (with_reducible refine SinceOf.setCell ?_ (by first | exact Nat.le_refl _ | (simp; done) | omega | (simp; omega)) _))))).calls.mono ?_
    rintro e _ ⟨rfl, x1, rfl⟩
    go_wp2_with fail
    refine bodyPost_ret (by simp [results, Try.results72, go_sem, *]; try rfl) rfl ?_
    exact ⟨rfl, by (repeat (first | (with_reducible exact LaterOf.refl _) | (with_reducible refine LaterOf.alloc ?_ _) | (with_reducible refine LaterOf.drew ?_) | (with_reducible refine LaterOf.drewN ?_ _) | (with_reducible refine LaterOf.later ?_ _) | (with_reducible refine LaterOf.setCell ?_ (by first | exact Nat.le_refl _ | (simp; done) | omega | (simp; omega)) _)))⟩
  · rw [he hv] at B
    rw [hv] at V
    rw [if_pos rfl]
    generalize boxOf r = b at *
    obtain ⟨b0, b1, b2, b3⟩ := b
    simp only at B
    clear he hv
    go_enter Try.func72, Try.ntmps72
    go_wp2_with fail
    refine (V _ (by (repeat (first | (with_reducible exact SinceOf.refl _) | (with_reducible assumption) | (with_reducible refine SinceOf.alloc ?_ _) | (with_reducible refine SinceOf.drew ?_) | (with_reducible refine SinceOf.drewN ?_ _) | (with_reducible refine SinceOf.later ?_ _) | (with_reducible refine SinceOf.further ?_ _) | (with_reducible refine SinceOf.setCell ?_ (by first | exact Nat.le_refl _ | (simp; done) | omega | (simp; omega)) _))))).calls.mono ?_
    rintro e _ ⟨rfl, x1, rfl⟩
    clear V
    go_wp2_with fail
    refine (B _ (by (repeat (first | (with_reducible exact SinceOf.refl _) | (with_reducible assumption) | (with_reducible refine SinceOf.alloc ?_ _) | (with_reducible refine SinceOf.drew ?_) | (with_reducible refine SinceOf.drewN ?_ _) | (with_reducible refine SinceOf.later ?_ _) | (with_reducible refine SinceOf.further ?_ _) | (with_reducible refine SinceOf.setCell ?_ (by first | exact Nat.le_refl _ | (simp; done) | omega | (simp; omega)) _))))).calls.mono ?_
    rintro e _ ⟨rfl, x2, rfl⟩
    clear B
    go_wp2_with fail
    refine bodyPost_ret (by simp [results, Try.results72, go_sem, *]; try rfl) rfl ?_
    exact ⟨rfl, by (repeat (first | (with_reducible exact LaterOf.refl _) | (with_reducible refine LaterOf.alloc ?_ _) | (with_reducible refine LaterOf.drew ?_) | (with_reducible refine LaterOf.drewN ?_ _) | (with_reducible refine LaterOf.later ?_ _) | (with_reducible refine LaterOf.setCell ?_ (by first | exact Nat.le_refl _ | (simp; done) | omega | (simp; omega)) _)))⟩
theorem floor_eq {a b : Int} (hb : 0 < b) : -((-a + b - 1) / b) = a / b := by
  have h1 := Int.emod_nonneg a (show b ≠ 0 by omega)
  have h2 := Int.emod_lt_of_pos a hb
  have h3 := Int.mul_ediv_add_emod a b
  have : (-a + b - 1) / b = -(a / b) := by
    have e : -a + b - 1 = (b - 1 - a % b) + b * (-(a / b)) := by rw [Int.mul_neg]; omega
    rw [e, Int.add_mul_ediv_left _ _ (by omega), Int.ediv_eq_zero_of_lt (by omega) (by omega), Int.zero_add]
  omega
set_option maxRecDepth 100000 in
set_option maxHeartbeats 4000000 in
theorem floor_any (a b : Int) (w : World) (ha : -1000000000 ≤ a ∧ a ≤ 1000000000) (hb : 0 < b) (hb2 : b ≤ 100000) :
    Gives Try.prog 71 #[.int .i64 a, .int .i64 b] w (.int .i64 (a / b)) := by
  apply Gives.ret
  have a1 := ha.1
  have a2 := ha.2
  clear ha
  have hb0 : ¬ b = 0 := by omega
  by_cases h : a < 0
  · have g1 : decide (a < 0) = true := decide_eq_true h
    have e := floor_eq (a := a) hb
    have z1 : 0 ≤ -a := by omega
    have z2 : 0 ≤ -a + b := by omega
    have z3 : 0 ≤ -a + b - 1 := by omega
    have q1 : 0 ≤ (-a + b - 1) / b := Int.ediv_nonneg z3 (by omega)
    have q2 : (-a + b - 1) / b ≤ -a + b - 1 := Int.ediv_le_self b z3
    rw [← e]
    clear e
    go_enter Try.func71, Try.ntmps71
    go_wp2_with fail
    go_returns
    exact ⟨rfl, by (repeat (first | (with_reducible exact LaterOf.refl _) | (with_reducible refine LaterOf.alloc ?_ _) | (with_reducible refine LaterOf.drew ?_) | (with_reducible refine LaterOf.drewN ?_ _) | (with_reducible refine LaterOf.later ?_ _) | (with_reducible refine LaterOf.setCell ?_ (by first | exact Nat.le_refl _ | (simp; done) | omega | (simp; omega)) _)))⟩
  · have g1 : decide (a < 0) = false := decide_eq_false h
    have z1 : 0 ≤ a := by omega
    have q1 : 0 ≤ a / b := Int.ediv_nonneg z1 (by omega)
    have q2 : a / b ≤ a := Int.ediv_le_self b z1
    go_enter Try.func71, Try.ntmps71
    go_wp2_with fail
    go_returns
    exact ⟨rfl, by (repeat (first | (with_reducible exact LaterOf.refl _) | (with_reducible refine LaterOf.alloc ?_ _) | (with_reducible refine LaterOf.drew ?_) | (with_reducible refine LaterOf.drewN ?_ _) | (with_reducible refine LaterOf.later ?_ _) | (with_reducible refine LaterOf.setCell ?_ (by first | exact Nat.le_refl _ | (simp; done) | omega | (simp; omega)) _)))⟩
theorem floor_bd {a b : Int} (ha : -1000000000 ≤ a ∧ a ≤ 1000000000) (hb : 1 ≤ b) : -1000000000 ≤ a / b ∧ a / b ≤ 1000000000 := by
  constructor
  · refine (Int.le_ediv_iff_mul_le (by omega)).2 ?_
    have := Int.mul_le_mul_of_nonneg_left hb (show (0 : Int) ≤ 1000000000 by omega)
    omega
  · rcases Int.le_total 0 a with h | h
    · have := Int.ediv_le_self b h
      omega
    · have h2 : a / b ≤ 0 := by
        have := Int.ediv_le_ediv (show 0 < b by omega) h
        rw [Int.zero_ediv] at this
        exact this
      omega
set_option maxRecDepth 100000 in
set_option maxHeartbeats 16000000 in
theorem row_any (A : Option Addr) (c : Nat) (r : List (Int × Int)) (y : Int) (w : World) (h : IsVecs w A c r) (hlen : r.length ≤ 100000) :
    Gives Try.prog 24 #[.slice A r.length c, .int .i64 y] w (.tuple #[.int .i64 (rowM r y).1, .int .i64 (rowM r y).2.1, .bool (rowM r y).2.2]) := by
  apply Gives.ret
  have H := Lib.hid h
  clear h
  have B := fun W (hW : SinceOf w W) => box_any A c r W (H.out.of hW) hlen
  generalize hres : rowM r y = res
  have HR := Lib.hid hres
  clear hres
  cases hv : validB r
  · rw [hv] at B
    obtain rfl : res = (0, 0, false) := by rw [← HR.out]; unfold rowM; rw [hv, if_neg (by simp)]
    generalize boxV r = b at *
    obtain ⟨b0, b1, b2, b3⟩ := b
    simp only at B
    clear hv
    go_enter Try.func24, Try.ntmps24
    go_wp2_with fail
    refine (B _ (by (repeat (first | (with_reducible exact SinceOf.refl _) | (with_reducible assumption) | (with_reducible refine SinceOf.alloc ?_ _) | (with_reducible refine SinceOf.drew ?_) | (with_reducible refine SinceOf.drewN ?_ _) | (with_reducible refine SinceOf.later ?_ _) | (with_reducible refine SinceOf.further ?_ _) | (with_reducible refine SinceOf.setCell ?_ (by first | exact Nat.le_refl _ | (simp; done) | omega | (simp; omega)) _))))).calls.mono ?_
    rintro e _ ⟨rfl, x1, rfl⟩
    go_wp2_with fail
    go_returns
    exact ⟨rfl, by (repeat (first | (with_reducible exact LaterOf.refl _) | (with_reducible refine LaterOf.alloc ?_ _) | (with_reducible refine LaterOf.drew ?_) | (with_reducible refine LaterOf.drewN ?_ _) | (with_reducible refine LaterOf.later ?_ _) | (with_reducible refine LaterOf.setCell ?_ (by first | exact Nat.le_refl _ | (simp; done) | omega | (simp; omega)) _)))⟩
  have hC := validB_iff.1 hv
  have HC := Lib.hid hC
  have h3 := hC.1
  have hbx : boxV r = boxOf r := by unfold boxV; rw [hv]; rfl
  rw [hv, hbx] at B
  have hbi := boxOf_is (l := r) (by omega)
  have HB := Lib.hid (And.intro hbi hv)
  by_cases hy : (boxOf r).2.1 < y ∧ y < (boxOf r).2.2.2
  case neg =>
    obtain rfl : res = (0, 0, false) := by
      rw [← HR.out]
      unfold rowM rowR
      rw [if_neg hy, if_neg (by simp)]
    clear hbi hC hv hbx
    generalize boxOf r = b at *
    obtain ⟨b0, b1, b2, b3⟩ := b
    simp only at B hy
    by_cases h1 : y ≤ b1
    · have g1 : decide (y ≤ b1) = true := decide_eq_true h1
      clear hy h1
      go_enter Try.func24, Try.ntmps24
      go_wp2_with fail
      refine (B _ (by (repeat (first | (with_reducible exact SinceOf.refl _) | (with_reducible assumption) | (with_reducible refine SinceOf.alloc ?_ _) | (with_reducible refine SinceOf.drew ?_) | (with_reducible refine SinceOf.drewN ?_ _) | (with_reducible refine SinceOf.later ?_ _) | (with_reducible refine SinceOf.further ?_ _) | (with_reducible refine SinceOf.setCell ?_ (by first | exact Nat.le_refl _ | (simp; done) | omega | (simp; omega)) _))))).calls.mono ?_
      rintro e _ ⟨rfl, x1, rfl⟩
      go_wp2_with fail
      go_returns
      exact ⟨rfl, by (repeat (first | (with_reducible exact LaterOf.refl _) | (with_reducible refine LaterOf.alloc ?_ _) | (with_reducible refine LaterOf.drew ?_) | (with_reducible refine LaterOf.drewN ?_ _) | (with_reducible refine LaterOf.later ?_ _) | (with_reducible refine LaterOf.setCell ?_ (by first | exact Nat.le_refl _ | (simp; done) | omega | (simp; omega)) _)))⟩
    · have g1 : decide (y ≤ b1) = false := decide_eq_false h1
      have g2 : decide (b3 ≤ y) = true := decide_eq_true (by omega)
      clear hy h1
      go_enter Try.func24, Try.ntmps24
      go_wp2_with fail
      refine (B _ (by (repeat (first | (with_reducible exact SinceOf.refl _) | (with_reducible assumption) | (with_reducible refine SinceOf.alloc ?_ _) | (with_reducible refine SinceOf.drew ?_) | (with_reducible refine SinceOf.drewN ?_ _) | (with_reducible refine SinceOf.later ?_ _) | (with_reducible refine SinceOf.further ?_ _) | (with_reducible refine SinceOf.setCell ?_ (by first | exact Nat.le_refl _ | (simp; done) | omega | (simp; omega)) _))))).calls.mono ?_
      rintro e _ ⟨rfl, x1, rfl⟩
      go_wp2_with fail
      go_returns
      exact ⟨rfl, by (repeat (first | (with_reducible exact LaterOf.refl _) | (with_reducible refine LaterOf.alloc ?_ _) | (with_reducible refine LaterOf.drew ?_) | (with_reducible refine LaterOf.drewN ?_ _) | (with_reducible refine LaterOf.later ?_ _) | (with_reducible refine LaterOf.setCell ?_ (by first | exact Nat.le_refl _ | (simp; done) | omega | (simp; omega)) _)))⟩
  have hyn : -8000 ≤ y ∧ y ≤ 8000 := by
    obtain ⟨p1, m1, q1⟩ := hbi.at2
    obtain ⟨p2, m2, q2⟩ := hbi.at4
    have n1 := hC.2.2.1 _ m1
    have n2 := hC.2.2.1 _ m2
    unfold near at n1 n2
    omega
  have hy1 := hyn.1
  have hy2 := hyn.2
  have hrr : rowR r y = (rowLo r y r.length, rowHi r y r.length) := by unfold rowR; rw [if_pos hy]
  have hrm : rowM r y = if rowLo r y r.length ≤ rowHi r y r.length then (rowLo r y r.length, rowHi r y r.length, true) else (0, 0, false) := by
    unfold rowM
    rw [hrr, hv]
    simp
  rw [hrm] at HR
  have g1 : decide (y ≤ (boxOf r).2.1) = false := decide_eq_false (by omega)
  have g2 : decide ((boxOf r).2.2.2 ≤ y) = false := decide_eq_false (by omega)
  clear hbi hC hv hbx hyn hrr hrm hy
  generalize boxOf r = b at *
  obtain ⟨b0, b1, b2, b3⟩ := b
  simp only at B g1 g2
  have NX := fun (j : Nat) (hj : j < r.length) W (hW : SinceOf w W) => next_any A c r j W (H.out.of hW) (by omega) hlen (by omega)
  clear HB
  go_enter Try.func24, Try.ntmps24
  go_wp2_with fail
  refine (B _ (by (repeat (first | (with_reducible exact SinceOf.refl _) | (with_reducible assumption) | (with_reducible refine SinceOf.alloc ?_ _) | (with_reducible refine SinceOf.drew ?_) | (with_reducible refine SinceOf.drewN ?_ _) | (with_reducible refine SinceOf.later ?_ _) | (with_reducible refine SinceOf.further ?_ _) | (with_reducible refine SinceOf.setCell ?_ (by first | exact Nat.le_refl _ | (simp; done) | omega | (simp; omega)) _))))).calls.mono ?_
  rintro e _ ⟨rfl, x1, rfl⟩
  clear B
  go_wp2_with fail
  clear g1 g2
  go_loopg [4, 5, 36] r.length (fun gas s4 s5 s36 wr => ∃ k : Nat, k ≤ r.length ∧ r.length - k ≤ gas ∧ s4 = .int .i64 (rowLo r y k) ∧ s5 = .int .i64 (rowHi r y k) ∧ s36 = .int .i64 k ∧ LaterOf w wr)
  case atStart => exact ⟨0, by omega, by omega, rfl, rfl, rfl, by (repeat (first | (with_reducible exact LaterOf.refl _) | (with_reducible refine LaterOf.alloc ?_ _) | (with_reducible refine LaterOf.drew ?_) | (with_reducible refine LaterOf.drewN ?_ _) | (with_reducible refine LaterOf.later ?_ _) | (with_reducible refine LaterOf.setCell ?_ (by first | exact Nat.le_refl _ | (simp; done) | omega | (simp; omega)) _)))⟩
  case round =>
    obtain ⟨k, hk, hgas, rfl, rfl, rfl, ⟨z, rfl⟩⟩ := hrel
    by_cases hlt : k < r.length
    · have hr0 := H.out.of (w' := z.wd) (by (repeat (first | (with_reducible exact SinceOf.refl _) | (with_reducible assumption) | (with_reducible refine SinceOf.alloc ?_ _) | (with_reducible refine SinceOf.drew ?_) | (with_reducible refine SinceOf.drewN ?_ _) | (with_reducible refine SinceOf.later ?_ _) | (with_reducible refine SinceOf.further ?_ _) | (with_reducible refine SinceOf.setCell ?_ (by first | exact Nat.le_refl _ | (simp; done) | omega | (simp; omega)) _))))
      obtain ⟨g, off, rfl, hr⟩ := hr0.at_ (by omega)
      have hO := hr.there
      have a0 := hr.v0 k hlt
      have a1 := hr.v1 k hlt
      have ea : at0 r k = r[k] := at0_eq hlt
      have N1 := fun W (hW : SinceOf z.wd W) => NX k hlt W (SinceOf.trans (LaterOf.since ⟨z, rfl⟩) hW)
      have n1 := HC.out.2.2.1 _ (List.getElem_mem hlt)
      have n2 := HC.out.2.2.1 _ (rv_mem (r := r) (i := k + 1) (by omega))
      obtain ⟨e1, e2, e3, e4⟩ := edge_exact n1 n2
      have hE : edgeV r k = subP (rv r (k + 1)) r[k] := by unfold edgeV; rw [rv_lt hlt, ea]
      rw [← hE] at e1 e2 e3 e4
      have S1 := sub_any (rv r (k + 1)).1 (rv r (k + 1)).2 r[k].1 r[k].2
      rw [e1, e2] at S1
      have hrn : rowN r y k = (edgeV r k).1 * (y - r[k].2) := by unfold rowN; rw [ea]
      have hhi : rowHi r y (k + 1) = if 0 < (edgeV r k).2 then min (rowHi r y k) (r[k].1 + (rowN r y k - 1) / (edgeV r k).2) else rowHi r y k := by rw [← ea]; rfl
      have hlo : rowLo r y (k + 1) = if (edgeV r k).2 < 0 then max (rowLo r y k) (r[k].1 + -rowN r y k / -(edgeV r k).2 + 1) else rowLo r y k := by rw [← ea]; rfl
      unfold near at n1
      have mb := mul_bound (edgeV r k).1 (y - r[k].2) 16000 16000 (by omega) (by omega) e3 (by omega)
      rw [← hrn] at mb
      have HH := Lib.hid (And.intro hhi (And.intro hlo hrn))
      have ax0 := n1.1.1
      have ax1 := n1.1.2
      have ay0 := n1.2.1
      have ay1 := n1.2.2
      have dx0 := e3.1
      have dx1 := e3.2
      have dy0 := e4.1
      have dy1 := e4.2
      have mn0 := mb.1
      have mn1 := mb.2
      clear hhi hlo hrn ea hE e1 e2 e3 e4 n1 n2 mb hr hr0
      obtain ⟨nn, hnn⟩ : ∃ nn, nn = rowN r y k := ⟨_, rfl⟩
      rw [← hnn] at mn0 mn1 HH
      clear hnn
      generalize (edgeV r k).1 = ex at *
      generalize (edgeV r k).2 = ey at *
      generalize (rv r (k + 1)).1 = bx at *
      generalize (rv r (k + 1)).2 = by_ at *
      generalize r[k].1 = ax at *
      generalize r[k].2 = ay at *
      go_upto_region 8 with fail
      go_cut [11] (fun s11 wx => ∃ b11 : Nat, s11 = .pointer (some ⟨b11, 0, none⟩) ∧ VarV wx b11 (ex, ey) ∧ LaterOf (z.wd.alloc (.cells #[.int .i64 ax, .int .i64 ay] 37)) wx)
      case first =>
        go_region_held3 (fun w' => w'.cell? ⟨z.wd.heap.size, 0, none⟩ = some (.int .i64 ax) ∧ w'.cell? ⟨z.wd.heap.size, 1, none⟩ = some (.int .i64 ay)) ((simp [go_sem, *]))
          (first
            | (go_at_call 69; (with_reducible refine (N1 _ (by (repeat (first | (with_reducible exact SinceOf.refl _) | (with_reducible assumption) | (with_reducible refine SinceOf.alloc ?_ _) | (with_reducible refine SinceOf.drew ?_) | (with_reducible refine SinceOf.drewN ?_ _) | (with_reducible refine SinceOf.later ?_ _) | (with_reducible refine SinceOf.further ?_ _) | (with_reducible refine SinceOf.setCell ?_ (by first | exact Nat.le_refl _ | (simp; done) | omega | (simp; omega)) _))))).calls.mono ?_); rintro e _ ⟨rfl, y1, rfl⟩; have sz_y1 := y1.size; (try simp only [World.size_alloc, World.size_setCell, World.size_drew] at sz_y1); (try (have na_y1_0 : ¬ z.wd.heap.size + 1 = y1.wd.heap.size := by omega)); (try (have nb_y1_0 : ¬ y1.wd.heap.size = z.wd.heap.size + 1 := by omega)))
            | (go_at_call 68; (with_reducible refine (S1 _).calls.mono ?_); rintro e _ ⟨rfl, y2, rfl⟩; have sz_y2 := y2.size; (try simp only [World.size_alloc, World.size_setCell, World.size_drew] at sz_y2); (try (have na_y2_0 : ¬ z.wd.heap.size + 1 = y2.wd.heap.size := by omega)); (try (have nb_y2_0 : ¬ y2.wd.heap.size = z.wd.heap.size + 1 := by omega)); (try (have na_y2_1 : ¬ y1.wd.heap.size = y2.wd.heap.size := by omega)); (try (have nb_y2_1 : ¬ y2.wd.heap.size = y1.wd.heap.size := by omega))))
        all_goals
          go_wp2_with fail
          go_meet
          refine ⟨_, rfl, ?_, by (repeat (first | (with_reducible exact LaterOf.refl _) | (with_reducible refine LaterOf.alloc ?_ _) | (with_reducible refine LaterOf.drew ?_) | (with_reducible refine LaterOf.drewN ?_ _) | (with_reducible refine LaterOf.later ?_ _) | (with_reducible refine LaterOf.setCell ?_ (by first | exact Nat.le_refl _ | (simp; done) | omega | (simp; omega)) _)))⟩
          exact ⟨by simp [go_sem, *], by simp [go_sem, *], by simp [go_sem, *], by simp [go_sem, *], by (simp only [World.size_alloc, World.size_setCell, World.size_drew]; omega)⟩
      case rest =>
        obtain ⟨b11, rfl, v11, ⟨u, rfl⟩⟩ := hcut
        have v10 : VarV u.wd z.wd.heap.size (ax, ay) := (VarV.new z.wd ax ay 37).of (by (repeat (first | (with_reducible exact SinceOf.refl _) | (with_reducible assumption) | (with_reducible refine SinceOf.alloc ?_ _) | (with_reducible refine SinceOf.drew ?_) | (with_reducible refine SinceOf.drewN ?_ _) | (with_reducible refine SinceOf.later ?_ _) | (with_reducible refine SinceOf.further ?_ _) | (with_reducible refine SinceOf.setCell ?_ (by first | exact Nat.le_refl _ | (simp; done) | omega | (simp; omega)) _))))
        have c0 := v10.c0
        have c1 := v10.c1
        have d0 := v11.c0
        have d1 := v11.c1
        have o10 : Nonempty (Old u.wd z.wd.heap.size) := ⟨⟨v10.lt⟩⟩
        have o11 : Nonempty (Old u.wd b11) := ⟨⟨v11.lt⟩⟩
        simp only at c0 c1 d0 d1
        clear v10 v11 N1 S1
        have hwn : wrap64 (ex * (y - ay)) = nn := by rw [← HH.out.2.2]; exact i64.wrap (by unfold i64; omega)
        rcases Int.lt_trichotomy ey 0 with q | q | q
        · have g1 : decide (0 < ey) = false := decide_eq_false (by omega)
          have g2 : decide (ey < 0) = true := decide_eq_true q
          have FL := fun W => floor_any (-nn) (-ey) W (by omega) (by omega) (by omega)
          have q1 := floor_bd (a := -nn) (b := -ey) (by omega) (show 1 ≤ -ey by omega)
          have HQ := Lib.hid (show rowLo r y (k + 1) = max (rowLo r y k) (ax + -nn / -ey + 1) ∧ rowHi r y (k + 1) = rowHi r y k from ⟨by rw [HH.out.2.1, if_pos q], by rw [HH.out.1, if_neg (by omega)]⟩)
          clear q
          obtain ⟨fv, hfv⟩ : ∃ fv, fv = -nn / -ey := ⟨_, rfl⟩
          rw [← hfv] at FL HQ q1
          clear hfv
          have q2 := q1.1
          have q3 := q1.2
          clear q1
          generalize rowLo r y k = lo at *
          generalize rowHi r y k = hi at *
          have w1 : IntKind.i64.wrap (-nn) = -nn := IntWalk.i64_in _ (by omega)
          have w2 : IntKind.i64.wrap (-ey) = -ey := IntWalk.i64_in _ (by omega)
          have w3 : IntKind.i64.wrap (ax + fv) = ax + fv := IntWalk.i64_in _ (by omega)
          have w4 : IntKind.i64.wrap (ax + fv + 1) = ax + fv + 1 := IntWalk.i64_in _ (by omega)
          go_upto_region 13 with fail
          go_region_held3 (fun w' => w'.cell? ⟨z.wd.heap.size, 0, none⟩ = some (.int .i64 ax) ∧ w'.cell? ⟨b11, 1, none⟩ = some (.int .i64 ey)) ((simp [go_sem, *]))
            ((go_at_call 71; (with_reducible refine (FL _).calls.mono ?_); rintro e _ ⟨rfl, y1, rfl⟩))
          all_goals
            go_wp2_with fail
            go_roundg (r.length - (k + 1))
            case measure => omega
            case rel => exact ⟨k + 1, hlt, Nat.le_refl _, (by first | (rw [HQ.out.1]; done) | (rw [HQ.out.1, ← imax_eq]; done) | (rw [HQ.out.1]; rfl)), (by first | (rw [HQ.out.2]; done) | (rw [HQ.out.2, ← imin_eq]; done) | (rw [HQ.out.2]; rfl)), by go_num, by (repeat (first | (with_reducible exact LaterOf.refl _) | (with_reducible refine LaterOf.alloc ?_ _) | (with_reducible refine LaterOf.drew ?_) | (with_reducible refine LaterOf.drewN ?_ _) | (with_reducible refine LaterOf.later ?_ _) | (with_reducible refine LaterOf.setCell ?_ (by first | exact Nat.le_refl _ | (simp; done) | omega | (simp; omega)) _)))⟩
        · have g1 : decide (0 < ey) = false := decide_eq_false (by omega)
          have g2 : decide (ey < 0) = false := decide_eq_false (by omega)
          have HQ := Lib.hid (show rowLo r y (k + 1) = rowLo r y k ∧ rowHi r y (k + 1) = rowHi r y k from ⟨by rw [HH.out.2.1, if_neg (by omega)], by rw [HH.out.1, if_neg (by omega)]⟩)
          clear q
          generalize rowLo r y k = lo at *
          generalize rowHi r y k = hi at *
          go_wp2_with fail
          go_roundg (r.length - (k + 1))
          case measure => omega
          case rel => exact ⟨k + 1, hlt, Nat.le_refl _, by rw [HQ.out.1], by rw [HQ.out.2], by go_num, by (repeat (first | (with_reducible exact LaterOf.refl _) | (with_reducible refine LaterOf.alloc ?_ _) | (with_reducible refine LaterOf.drew ?_) | (with_reducible refine LaterOf.drewN ?_ _) | (with_reducible refine LaterOf.later ?_ _) | (with_reducible refine LaterOf.setCell ?_ (by first | exact Nat.le_refl _ | (simp; done) | omega | (simp; omega)) _)))⟩
        · have g1 : decide (0 < ey) = true := decide_eq_true q
          have FL := fun W => floor_any (nn - 1) ey W (by omega) (by omega) (by omega)
          have q1 := floor_bd (a := nn - 1) (b := ey) (by omega) (show 1 ≤ ey by omega)
          have HQ := Lib.hid (show rowLo r y (k + 1) = rowLo r y k ∧ rowHi r y (k + 1) = min (rowHi r y k) (ax + (nn - 1) / ey) from ⟨by rw [HH.out.2.1, if_neg (by omega)], by rw [HH.out.1, if_pos q]⟩)
          clear q
          obtain ⟨fv, hfv⟩ : ∃ fv, fv = (nn - 1) / ey := ⟨_, rfl⟩
          rw [← hfv] at FL HQ q1
          clear hfv
          have q2 := q1.1
          have q3 := q1.2
          clear q1
          generalize rowLo r y k = lo at *
          generalize rowHi r y k = hi at *
          have w1 : IntKind.i64.wrap (nn - 1) = nn - 1 := IntWalk.i64_in _ (by omega)
          have w3 : IntKind.i64.wrap (ax + fv) = ax + fv := IntWalk.i64_in _ (by omega)
          go_upto_region 11 with fail
          go_region_held3 (fun w' => w'.cell? ⟨z.wd.heap.size, 0, none⟩ = some (.int .i64 ax) ∧ w'.cell? ⟨b11, 1, none⟩ = some (.int .i64 ey)) ((simp [go_sem, *]))
            ((go_at_call 71; (with_reducible refine (FL _).calls.mono ?_); rintro e _ ⟨rfl, y1, rfl⟩))
          all_goals
            go_wp2_with fail
            go_roundg (r.length - (k + 1))
            case measure => omega
            case rel => exact ⟨k + 1, hlt, Nat.le_refl _, (by first | (rw [HQ.out.1]; done) | (rw [HQ.out.1, ← imax_eq]; done) | (rw [HQ.out.1]; rfl)), (by first | (rw [HQ.out.2]; done) | (rw [HQ.out.2, ← imin_eq]; done) | (rw [HQ.out.2]; rfl)), by go_num, by (repeat (first | (with_reducible exact LaterOf.refl _) | (with_reducible refine LaterOf.alloc ?_ _) | (with_reducible refine LaterOf.drew ?_) | (with_reducible refine LaterOf.drewN ?_ _) | (with_reducible refine LaterOf.later ?_ _) | (with_reducible refine LaterOf.setCell ?_ (by first | exact Nat.le_refl _ | (simp; done) | omega | (simp; omega)) _)))⟩
    · obtain rfl : k = r.length := by omega
      generalize rowLo r y r.length = lo at *
      generalize rowHi r y r.length = hi at *
      by_cases hlh : lo ≤ hi
      · have g1 : decide (hi < lo) = false := decide_eq_false (by omega)
        rw [if_pos hlh] at HR
        obtain rfl := HR.out
        clear hlh
        go_wp2_with fail
        go_returns
        exact ⟨rfl, by (repeat (first | (with_reducible exact LaterOf.refl _) | (with_reducible refine LaterOf.alloc ?_ _) | (with_reducible refine LaterOf.drew ?_) | (with_reducible refine LaterOf.drewN ?_ _) | (with_reducible refine LaterOf.later ?_ _) | (with_reducible refine LaterOf.setCell ?_ (by first | exact Nat.le_refl _ | (simp; done) | omega | (simp; omega)) _)))⟩
      · have g1 : decide (hi < lo) = true := decide_eq_true (by omega)
        rw [if_neg hlh] at HR
        obtain rfl := HR.out
        clear hlh
        go_wp2_with fail
        go_returns
        exact ⟨rfl, by (repeat (first | (with_reducible exact LaterOf.refl _) | (with_reducible refine LaterOf.alloc ?_ _) | (with_reducible refine LaterOf.drew ?_) | (with_reducible refine LaterOf.drewN ?_ _) | (with_reducible refine LaterOf.later ?_ _) | (with_reducible refine LaterOf.setCell ?_ (by first | exact Nat.le_refl _ | (simp; done) | omega | (simp; omega)) _)))⟩
end Go.Proofs.Ytbienlhofkfdpaa
