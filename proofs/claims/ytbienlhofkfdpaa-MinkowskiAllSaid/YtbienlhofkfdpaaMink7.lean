/- Layer 15: Row of the reference, Same, Few. -/
import Derived.Test.YtbienlhofkfdpaaMink6
import Derived.Test.YtbienlhofkfdpaaSame
namespace Go.Proofs.Ytbienlhofkfdpaa
open Go.RowKit Go.Sort
set_option linter.unusedVariables false
set_option linter.unusedSimpArgs false
attribute [local go_sem ↓] Go.wp_at_zero Go.wp_at_succ

set_option maxRecDepth 100000 in
theorem same08_any (A B : Option Addr) (c d : Nat) (l m : List (Int × Int)) (w : World) (hl : IsVecs w A c l) (hm : IsVecs w B d m) (hn : l.length < 4611686018427387904) (hn2 : m.length < 4611686018427387904) :
    Gives Try.prog 17 #[.slice A l.length c, .slice B m.length d] w (.bool (decide (l = m))) := by
  apply Gives.ret
  have S := fun W (hW : SinceOf w W) => refSame_any A B c d l m W (hl.of hW) (hm.of hW) hn hn2
  go_enter Try.func17, Try.ntmps17
  go_wp2_with fail
  refine (S _ (by (repeat (first | (with_reducible exact SinceOf.refl _) | (with_reducible assumption) | (with_reducible refine SinceOf.alloc ?_ _) | (with_reducible refine SinceOf.drew ?_) | (with_reducible refine SinceOf.drewN ?_ _) | (with_reducible refine SinceOf.later ?_ _) | (with_reducible refine SinceOf.further ?_ _) | (with_reducible refine SinceOf.setCell ?_ (by first | exact Nat.le_refl _ | (simp; done) | omega | (simp; omega)) _))))).calls.mono ?_
  rintro e _ ⟨rfl, x1, rfl⟩
  go_wp2_with fail
  go_returns
  exact ⟨rfl, by (repeat (first | (with_reducible exact LaterOf.refl _) | (with_reducible refine LaterOf.alloc ?_ _) | (with_reducible refine LaterOf.drew ?_) | (with_reducible refine LaterOf.drewN ?_ _) | (with_reducible refine LaterOf.later ?_ _) | (with_reducible refine LaterOf.setCell ?_ (by first | exact Nat.le_refl _ | (simp; done) | omega | (simp; omega)) _)))⟩
set_option maxRecDepth 100000 in
theorem few15_any (A : Option Addr) (n c : Nat) (w : World) : Gives Try.prog 14 #[.slice A n c] w (.bool (decide (n ≤ 20))) := by
  apply Gives.ret
  have e : decide ((n : Int) ≤ 20) = decide (n ≤ 20) := by
    by_cases h : n ≤ 20
    · rw [decide_eq_true h, decide_eq_true (by omega)]
    · rw [decide_eq_false h, decide_eq_false (by omega)]
  go_enter Try.func14, Try.ntmps14
  go_wp2_with fail
  go_returns
  exact ⟨by first | rfl | rw [e] | (simp only [e]), by (repeat (first | (with_reducible exact LaterOf.refl _) | (with_reducible refine LaterOf.alloc ?_ _) | (with_reducible refine LaterOf.drew ?_) | (with_reducible refine LaterOf.drewN ?_ _) | (with_reducible refine LaterOf.later ?_ _) | (with_reducible refine LaterOf.setCell ?_ (by first | exact Nat.le_refl _ | (simp; done) | omega | (simp; omega)) _)))⟩

/-- What the reference's row has found ahead of x. -/
def rowSt (L H x : Int) : Int × Int × Bool := if L ≤ H ∧ L < x then (L, min (x - 1) H, true) else (0, 0, false)
theorem rowSt_out {L H x : Int} (h : ¬ (L ≤ x ∧ x ≤ H)) : rowSt L H (x + 1) = rowSt L H x := by
  unfold rowSt
  by_cases c : L ≤ H ∧ L < x
  · rw [if_pos c, if_pos (by omega)]
    refine Prod.ext rfl (Prod.ext ?_ rfl)
    simp only
    omega
  · rw [if_neg c, if_neg (by omega)]
theorem rowSt_first {L H x : Int} (h : L ≤ x ∧ x ≤ H) (h2 : (rowSt L H x).2.2 = false) : rowSt L H (x + 1) = (x, x, true) := by
  unfold rowSt at *
  by_cases c : L ≤ H ∧ L < x
  · rw [if_pos c] at h2; cases h2
  · rw [if_pos (by omega)]
    refine Prod.ext ?_ (Prod.ext ?_ rfl)
    · simp only; omega
    · simp only; omega
theorem rowSt_next {L H x : Int} (h : L ≤ x ∧ x ≤ H) (h2 : (rowSt L H x).2.2 = true) : rowSt L H (x + 1) = ((rowSt L H x).1, x, true) := by
  unfold rowSt at *
  by_cases c : L ≤ H ∧ L < x
  · rw [if_pos c, if_pos (by omega)]
    refine Prod.ext rfl (Prod.ext ?_ rfl)
    simp only
    omega
  · rw [if_neg c] at h2; cases h2

set_option maxRecDepth 100000 in
set_option maxHeartbeats 16000000 in
theorem refRow_any (A : Option Addr) (c : Nat) (r : List (Int × Int)) (y : Int) (w : World) (h : IsVecs w A c r) (hlen : r.length ≤ 100000) :
    Gives Try.prog 25 #[.slice A r.length c, .int .i64 y] w (.tuple #[.int .i64 (rowM r y).1, .int .i64 (rowM r y).2.1, .bool (rowM r y).2.2]) := by
  apply Gives.ret
  have H := Lib.hid h
  clear h
  have B := fun W (hW : SinceOf w W) => refBox_any A c r W (H.out.of hW) hlen
  have PL := fun x W (hW : SinceOf w W) => refPlace_any A c r x y W (H.out.of hW) hlen
  generalize hres : rowM r y = res
  have HR := Lib.hid hres
  clear hres
  cases hv : validB r
  · rw [hv] at B
    obtain rfl : res = (0, 0, false) := by rw [← HR.out]; unfold rowM; rw [hv, if_neg (by simp)]
    generalize boxV r = b at *
    obtain ⟨b0, b1, b2, b3⟩ := b
    simp only at B
    clear hv PL
    go_enter Try.func25, Try.ntmps25
    go_wp2_with fail
    refine (B _ (by (repeat (first | (with_reducible exact SinceOf.refl _) | (with_reducible assumption) | (with_reducible refine SinceOf.alloc ?_ _) | (with_reducible refine SinceOf.drew ?_) | (with_reducible refine SinceOf.drewN ?_ _) | (with_reducible refine SinceOf.later ?_ _) | (with_reducible refine SinceOf.further ?_ _) | (with_reducible refine SinceOf.setCell ?_ (by first | exact Nat.le_refl _ | (simp; done) | omega | (simp; omega)) _))))).calls.mono ?_
    rintro e _ ⟨rfl, x1, rfl⟩
    go_wp2_with fail
    go_returns
    exact ⟨rfl, by (repeat (first | (with_reducible exact LaterOf.refl _) | (with_reducible refine LaterOf.alloc ?_ _) | (with_reducible refine LaterOf.drew ?_) | (with_reducible refine LaterOf.drewN ?_ _) | (with_reducible refine LaterOf.later ?_ _) | (with_reducible refine LaterOf.setCell ?_ (by first | exact Nat.le_refl _ | (simp; done) | omega | (simp; omega)) _)))⟩
  have hC := validB_iff.1 hv
  have h3 := hC.1
  have hbx : boxV r = boxOf r := by unfold boxV; rw [hv]; rfl
  rw [hv, hbx] at B
  have hbi := boxOf_is (l := r) (by omega)
  have hrm : rowM r y = if (rowR r y).1 ≤ (rowR r y).2 then ((rowR r y).1, (rowR r y).2, true) else (0, 0, false) := by
    unfold rowM
    rw [hv]
    simp
  have hrb : ∀ x, ((rowR r y).1 ≤ x ∧ x ≤ (rowR r y).2) → (boxOf r).2.1 < y ∧ y < (boxOf r).2.2.2 ∧ (boxOf r).1 < x ∧ x < (boxOf r).2.2.1 := fun x hx => row_box hC ((rowR_iff hC y x).2 hx)
  have hbn : (-8000 ≤ (boxOf r).1 ∧ (boxOf r).2.2.1 ≤ 8000) ∧ (-8000 ≤ (boxOf r).2.1 ∧ (boxOf r).2.2.2 ≤ 8000) := by
    obtain ⟨p1, m1, q1⟩ := hbi.at2
    obtain ⟨p2, m2, q2⟩ := hbi.at4
    obtain ⟨p3, m3, q3⟩ := hbi.at1
    obtain ⟨p4, m4, q4⟩ := hbi.at3
    have n1 := hC.2.2.1 _ m1
    have n2 := hC.2.2.1 _ m2
    have n3 := hC.2.2.1 _ m3
    have n4 := hC.2.2.1 _ m4
    unfold near at n1 n2 n3 n4
    omega
  have hle : (boxOf r).1 ≤ (boxOf r).2.2.1 := by
    obtain ⟨p3, m3, q3⟩ := hbi.at1
    have := hbi.in1 _ m3
    omega
  have hpl : ∀ x, (boxOf r).1 ≤ x → x ≤ (boxOf r).2.2.1 → (boxOf r).2.1 ≤ y → y ≤ (boxOf r).2.2.2 → (placeV r (x, y) = 2 ↔ (rowR r y).1 ≤ x ∧ x ≤ (rowR r y).2) := fun x h1 h2 h3 h4 => by
    rw [← rowR_iff hC, place_in (m := 8000) (by omega) hC.2.2.1 (by unfold near; simp only; omega)]
    rfl
  rw [hrm] at HR
  clear hC hbi hv hbx hrm h3
  generalize rowR r y = RR at *
  obtain ⟨L, U⟩ := RR
  generalize boxOf r = b at *
  obtain ⟨b0, b1, b2, b3⟩ := b
  simp only at B HR hrb hbn hpl hle
  by_cases h1 : y < b1
  · have g1 : decide (y < b1) = true := decide_eq_true h1
    obtain rfl : res = (0, 0, false) := by
      rw [← HR.out, if_neg]
      intro hh
      have := hrb L ⟨by omega, hh⟩
      omega
    clear hrb hpl hbn h1 PL
    go_enter Try.func25, Try.ntmps25
    go_wp2_with fail
    refine (B _ (by (repeat (first | (with_reducible exact SinceOf.refl _) | (with_reducible assumption) | (with_reducible refine SinceOf.alloc ?_ _) | (with_reducible refine SinceOf.drew ?_) | (with_reducible refine SinceOf.drewN ?_ _) | (with_reducible refine SinceOf.later ?_ _) | (with_reducible refine SinceOf.further ?_ _) | (with_reducible refine SinceOf.setCell ?_ (by first | exact Nat.le_refl _ | (simp; done) | omega | (simp; omega)) _))))).calls.mono ?_
    rintro e _ ⟨rfl, x1, rfl⟩
    go_wp2_with fail
    go_returns
    exact ⟨rfl, by (repeat (first | (with_reducible exact LaterOf.refl _) | (with_reducible refine LaterOf.alloc ?_ _) | (with_reducible refine LaterOf.drew ?_) | (with_reducible refine LaterOf.drewN ?_ _) | (with_reducible refine LaterOf.later ?_ _) | (with_reducible refine LaterOf.setCell ?_ (by first | exact Nat.le_refl _ | (simp; done) | omega | (simp; omega)) _)))⟩
  have g1 : decide (y < b1) = false := decide_eq_false h1
  by_cases h2 : b3 < y
  · have g2 : decide (b3 < y) = true := decide_eq_true h2
    obtain rfl : res = (0, 0, false) := by
      rw [← HR.out, if_neg]
      intro hh
      have := hrb L ⟨by omega, hh⟩
      omega
    clear hrb hpl hbn h1 h2 PL
    go_enter Try.func25, Try.ntmps25
    go_wp2_with fail
    refine (B _ (by (repeat (first | (with_reducible exact SinceOf.refl _) | (with_reducible assumption) | (with_reducible refine SinceOf.alloc ?_ _) | (with_reducible refine SinceOf.drew ?_) | (with_reducible refine SinceOf.drewN ?_ _) | (with_reducible refine SinceOf.later ?_ _) | (with_reducible refine SinceOf.further ?_ _) | (with_reducible refine SinceOf.setCell ?_ (by first | exact Nat.le_refl _ | (simp; done) | omega | (simp; omega)) _))))).calls.mono ?_
    rintro e _ ⟨rfl, x1, rfl⟩
    go_wp2_with fail
    go_returns
    exact ⟨rfl, by (repeat (first | (with_reducible exact LaterOf.refl _) | (with_reducible refine LaterOf.alloc ?_ _) | (with_reducible refine LaterOf.drew ?_) | (with_reducible refine LaterOf.drewN ?_ _) | (with_reducible refine LaterOf.later ?_ _) | (with_reducible refine LaterOf.setCell ?_ (by first | exact Nat.le_refl _ | (simp; done) | omega | (simp; omega)) _)))⟩
  have g2 : decide (b3 < y) = false := decide_eq_false h2
  have hp2 : ∀ x, b0 ≤ x → x ≤ b2 → (placeV r (x, y) = 2 ↔ L ≤ x ∧ x ≤ U) := fun x a b => hpl x a b (by omega) (by omega)
  have hs0 : rowSt L U b0 = (0, 0, false) := by
    unfold rowSt
    rw [if_neg]
    intro hh
    have := hrb L ⟨by omega, hh.1⟩
    omega
  have hs1 : rowSt L U (b2 + 1) = res := by
    rw [← HR.out]
    unfold rowSt
    by_cases hh : L ≤ U
    · have q1 := hrb L ⟨by omega, hh⟩
      have q2 := hrb U ⟨by omega, by omega⟩
      rw [if_pos (by omega), if_pos hh]
      refine Prod.ext rfl (Prod.ext ?_ rfl)
      simp only
      omega
    · rw [if_neg (by omega), if_neg hh]
  have HP := Lib.hid (And.intro hp2 (And.intro hs0 hs1))
  have n1 := hbn.1.1
  have n2 := hbn.1.2
  clear hrb hpl hbn h1 h2 hp2 hs0 hs1 HR
  go_enter Try.func25, Try.ntmps25
  go_wp2_with fail
  refine (B _ (by (repeat (first | (with_reducible exact SinceOf.refl _) | (with_reducible assumption) | (with_reducible refine SinceOf.alloc ?_ _) | (with_reducible refine SinceOf.drew ?_) | (with_reducible refine SinceOf.drewN ?_ _) | (with_reducible refine SinceOf.later ?_ _) | (with_reducible refine SinceOf.further ?_ _) | (with_reducible refine SinceOf.setCell ?_ (by first | exact Nat.le_refl _ | (simp; done) | omega | (simp; omega)) _))))).calls.mono ?_
  rintro e _ ⟨rfl, x1, rfl⟩
  clear B
  go_wp2_with fail
  clear g1 g2
  go_loopg [4, 5, 6, 9] (b2 + 1 - b0).toNat (fun gas s4 s5 s6 s9 wr => ∃ x : Int, b0 ≤ x ∧ x ≤ b2 + 1 ∧ (b2 + 1 - x).toNat ≤ gas ∧ s4 = .int .i64 (rowSt L U x).1 ∧ s5 = .int .i64 (rowSt L U x).2.1 ∧ s6 = .bool (rowSt L U x).2.2 ∧ s9 = .int .i64 x ∧ LaterOf w wr ∧ (x1.wd.heap.size < wr.heap.size ∧ wr.cell? ⟨x1.wd.heap.size, 2, none⟩ = some (.int .i64 b2)))
  case atStart => exact ⟨b0, by omega, by omega, by omega, by rw [HP.out.2.1], by rw [HP.out.2.1], by rw [HP.out.2.1], rfl, by (repeat (first | (with_reducible exact LaterOf.refl _) | (with_reducible refine LaterOf.alloc ?_ _) | (with_reducible refine LaterOf.drew ?_) | (with_reducible refine LaterOf.drewN ?_ _) | (with_reducible refine LaterOf.later ?_ _) | (with_reducible refine LaterOf.setCell ?_ (by first | exact Nat.le_refl _ | (simp; done) | omega | (simp; omega)) _))), by first | (constructor <;> first | go_num | simp [go_sem, *])⟩
  case round =>
    obtain ⟨x, hx0, hx1, hgas, rfl, rfl, rfl, rfl, ⟨u, rfl⟩, hb, hc⟩ := hrel
    have hU1 : Nonempty (Old u.wd x1.wd.heap.size) := ⟨⟨hb⟩⟩
    by_cases hlt : x ≤ b2
    · have g1 : decide (x ≤ b2) = true := decide_eq_true hlt
      have P1 := fun W (hW : SinceOf u.wd W) => PL x W (SinceOf.trans (LaterOf.since ⟨u, rfl⟩) hW)
      have hpx := HP.out.1 x hx0 hlt
      have hw1 : IntKind.i64.wrap (x + 1) = x + 1 := IntWalk.i64_in _ (by omega)
      by_cases hin : L ≤ x ∧ x ≤ U
      · have g2 : (placeV r (x, y) == 2) = true := by simpa using hpx.2 hin
        generalize placeV r (x, y) = t at *
        cases hk : (rowSt L U x).2.2
        · have HS := Lib.hid (rowSt_first hin hk)
          clear hin hpx hk PL
          generalize rowSt L U x = st at *
          obtain ⟨s1, s2, s3⟩ := st
          go_wp2_with fail
          refine (P1 _ (by (repeat (first | (with_reducible exact SinceOf.refl _) | (with_reducible assumption) | (with_reducible refine SinceOf.alloc ?_ _) | (with_reducible refine SinceOf.drew ?_) | (with_reducible refine SinceOf.drewN ?_ _) | (with_reducible refine SinceOf.later ?_ _) | (with_reducible refine SinceOf.further ?_ _) | (with_reducible refine SinceOf.setCell ?_ (by first | exact Nat.le_refl _ | (simp; done) | omega | (simp; omega)) _))))).calls.mono ?_
          rintro e _ ⟨rfl, z4, rfl⟩
          go_wp2_with fail
          go_roundg (b2 + 1 - (x + 1)).toNat
          case measure => omega
          case rel => exact ⟨x + 1, by omega, by omega, Nat.le_refl _, by rw [HS.out], by rw [HS.out], by rw [HS.out], by go_num, by (repeat (first | (with_reducible exact LaterOf.refl _) | (with_reducible refine LaterOf.alloc ?_ _) | (with_reducible refine LaterOf.drew ?_) | (with_reducible refine LaterOf.drewN ?_ _) | (with_reducible refine LaterOf.later ?_ _) | (with_reducible refine LaterOf.setCell ?_ (by first | exact Nat.le_refl _ | (simp; done) | omega | (simp; omega)) _))), Nat.lt_of_lt_of_le hb (by first | exact z4.below.size | exact (LaterOf.since ⟨z4, rfl⟩).size), by first | exact hc | (rw [Later.cell]; exact hc) | (rw [Since.cell]; exact hc)⟩
        · have HS := Lib.hid (rowSt_next hin hk)
          clear hin hpx hk PL
          generalize rowSt L U x = st at *
          obtain ⟨s1, s2, s3⟩ := st
          go_wp2_with fail
          refine (P1 _ (by (repeat (first | (with_reducible exact SinceOf.refl _) | (with_reducible assumption) | (with_reducible refine SinceOf.alloc ?_ _) | (with_reducible refine SinceOf.drew ?_) | (with_reducible refine SinceOf.drewN ?_ _) | (with_reducible refine SinceOf.later ?_ _) | (with_reducible refine SinceOf.further ?_ _) | (with_reducible refine SinceOf.setCell ?_ (by first | exact Nat.le_refl _ | (simp; done) | omega | (simp; omega)) _))))).calls.mono ?_
          rintro e _ ⟨rfl, z4, rfl⟩
          go_wp2_with fail
          go_roundg (b2 + 1 - (x + 1)).toNat
          case measure => omega
          case rel => exact ⟨x + 1, by omega, by omega, Nat.le_refl _, by rw [HS.out], by rw [HS.out], by rw [HS.out], by go_num, by (repeat (first | (with_reducible exact LaterOf.refl _) | (with_reducible refine LaterOf.alloc ?_ _) | (with_reducible refine LaterOf.drew ?_) | (with_reducible refine LaterOf.drewN ?_ _) | (with_reducible refine LaterOf.later ?_ _) | (with_reducible refine LaterOf.setCell ?_ (by first | exact Nat.le_refl _ | (simp; done) | omega | (simp; omega)) _))), Nat.lt_of_lt_of_le hb (by first | exact z4.below.size | exact (LaterOf.since ⟨z4, rfl⟩).size), by first | exact hc | (rw [Later.cell]; exact hc) | (rw [Since.cell]; exact hc)⟩
      · have g2 : (placeV r (x, y) == 2) = false := by simpa using fun e => hin (hpx.1 e)
        generalize placeV r (x, y) = t at *
        have HS := Lib.hid (rowSt_out hin)
        clear hin hpx PL
        generalize rowSt L U x = st at *
        go_wp2_with fail
        refine (P1 _ (by (repeat (first | (with_reducible exact SinceOf.refl _) | (with_reducible assumption) | (with_reducible refine SinceOf.alloc ?_ _) | (with_reducible refine SinceOf.drew ?_) | (with_reducible refine SinceOf.drewN ?_ _) | (with_reducible refine SinceOf.later ?_ _) | (with_reducible refine SinceOf.further ?_ _) | (with_reducible refine SinceOf.setCell ?_ (by first | exact Nat.le_refl _ | (simp; done) | omega | (simp; omega)) _))))).calls.mono ?_
        rintro e _ ⟨rfl, z4, rfl⟩
        go_wp2_with fail
        go_roundg (b2 + 1 - (x + 1)).toNat
        case measure => omega
        case rel => exact ⟨x + 1, by omega, by omega, Nat.le_refl _, by rw [HS.out], by rw [HS.out], by rw [HS.out], by go_num, by (repeat (first | (with_reducible exact LaterOf.refl _) | (with_reducible refine LaterOf.alloc ?_ _) | (with_reducible refine LaterOf.drew ?_) | (with_reducible refine LaterOf.drewN ?_ _) | (with_reducible refine LaterOf.later ?_ _) | (with_reducible refine LaterOf.setCell ?_ (by first | exact Nat.le_refl _ | (simp; done) | omega | (simp; omega)) _))), Nat.lt_of_lt_of_le hb (by first | exact z4.below.size | exact (LaterOf.since ⟨z4, rfl⟩).size), by first | exact hc | (rw [Later.cell]; exact hc) | (rw [Since.cell]; exact hc)⟩
    · obtain rfl : x = b2 + 1 := by omega
      have g1 : decide (b2 + 1 ≤ b2) = false := decide_eq_false (by omega)
      have HS := HP.out.2.2
      clear hgas hx0 hx1 hlt
      rw [HS]
      go_wp2_with fail
      go_returns
      exact ⟨rfl, by (repeat (first | (with_reducible exact LaterOf.refl _) | (with_reducible refine LaterOf.alloc ?_ _) | (with_reducible refine LaterOf.drew ?_) | (with_reducible refine LaterOf.drewN ?_ _) | (with_reducible refine LaterOf.later ?_ _) | (with_reducible refine LaterOf.setCell ?_ (by first | exact Nat.le_refl _ | (simp; done) | omega | (simp; omega)) _)))⟩
end Go.Proofs.Ytbienlhofkfdpaa
