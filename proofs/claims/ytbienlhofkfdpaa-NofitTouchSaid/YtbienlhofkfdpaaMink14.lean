/- Layer 15: the examples of the document. -/
import Derived.Test.YtbienlhofkfdpaaMink11
namespace Go.Proofs.Ytbienlhofkfdpaa
open Go.RowKit Go.Sort
set_option linter.unusedVariables false
set_option linter.unusedSimpArgs false
attribute [local go_sem ↓] Go.wp_at_zero Go.wp_at_succ

def awA : List Pt := [(0, 0), (2, 0), (2, 2), (0, 2)]
def awB : List Pt := [(0, 0), (1, 0), (0, 1)]
def awS : List Pt := [(0, 0), (3, 0), (3, 2), (2, 3), (0, 3)]
theorem awA_valid : validB awA = true := by decide +kernel
theorem awB_valid : validB awB = true := by decide +kernel
theorem awS_valid : validB awS = true := by decide +kernel
theorem awS_row : rowM awS 1 = (1, 2, true) := by decide +kernel
theorem awS_sum : sumOut (addW (at0 awA 0) (at0 awB 0)) (insE (dirsK (rotL 0 awA) awA.length ++ dirsK (rotL 0 awB) awB.length)) = (awS, 0) := by decide +kernel
theorem awake_res {out : List Pt × Int} (h : SumRes insR awA awB out) : out = (awS, 0) := by
  obtain ⟨k, m, T, hk, h1, hm, h2, hT, rfl⟩ := h
  unfold insR at hT
  subst hT
  have hk0 : k = 0 := by
    have := h1 0 (by decide)
    rcases Nat.lt_or_ge k 1 with q | q
    · omega
    · have hk4 : k < 4 := hk
      obtain rfl | rfl | rfl : k = 1 ∨ k = 2 ∨ k = 3 := by omega
      all_goals exact absurd (by unfold lexy; decide) this
  have hm0 : m = 0 := by
    have := h2 0 (by decide)
    rcases Nat.lt_or_ge m 1 with q | q
    · omega
    · have hm3 : m < 3 := hm
      obtain rfl | rfl : m = 1 ∨ m = 2 := by omega
      all_goals exact absurd (by unfold lexy; decide) this
  rw [hk0, hm0]
  exact awS_sum
end Go.Proofs.Ytbienlhofkfdpaa
/- Layer 15: awake (its walk). -/
namespace Go.Proofs.Ytbienlhofkfdpaa
open Go.RowKit Go.Sort
set_option linter.unusedVariables false
set_option linter.unusedSimpArgs false
attribute [local go_sem ↓] Go.wp_at_zero Go.wp_at_succ

def cellsV (l : List Pt) : Array Value := (l.flatMap encV).toArray
set_option maxRecDepth 100000 in
set_option maxHeartbeats 4000000 in
theorem awake15_any (w : World) : Calls Try.prog 13 #[] w fun e w' => e = .returned (.bool true) ∧ SinceOf w w' := by
  have hA : ∀ W : World, OwnVecs W.heap.size (W.alloc (.cells #[.int .i64 0, .int .i64 0, .int .i64 2, .int .i64 0, .int .i64 2, .int .i64 2, .int .i64 0, .int .i64 2] 37)) (some ⟨W.heap.size, 0, none⟩) 4 awA := fun W => World.ownsRow_lit W _ 4 (Nat.le_refl _) (by unfold maxLen; omega) rfl
  have hB : ∀ W : World, OwnVecs W.heap.size (W.alloc (.cells #[.int .i64 0, .int .i64 0, .int .i64 1, .int .i64 0, .int .i64 0, .int .i64 1] 37)) (some ⟨W.heap.size, 0, none⟩) 3 awB := fun W => World.ownsRow_lit W _ 3 (Nat.le_refl _) (by unfold maxLen; omega) rfl
  have hS : ∀ W : World, OwnVecs W.heap.size (W.alloc (.cells #[.int .i64 0, .int .i64 0, .int .i64 3, .int .i64 0, .int .i64 3, .int .i64 2, .int .i64 2, .int .i64 3, .int .i64 0, .int .i64 3] 37)) (some ⟨W.heap.size, 0, none⟩) 5 awS := fun W => World.ownsRow_lit W _ 5 (Nat.le_refl _) (by unfold maxLen; omega) rfl
  have HH := Lib.hid (And.intro hA (And.intro hB hS))
  clear hA hB hS
  go_enter Try.func13, Try.ntmps13
  go_wp2_with fail
  have SW := fun W (hW1 : IsVecs W (some ⟨w.heap.size, 0, none⟩) 4 awA) (hW2 : IsVecs W (some ⟨w.heap.size + 1, 0, none⟩) 3 awB) => sum_walk sorts20 (some ⟨w.heap.size, 0, none⟩) (some ⟨w.heap.size + 1, 0, none⟩) 4 3 awA awB W hW1 hW2 (by decide) (by decide) awA_valid awB_valid (by decide)
  have la : awA.length = 4 := rfl
  have lb : awB.length = 3 := rfl
  simp only [la, lb] at SW
  refine (SW _ (((HH.out.1 w).isRow encV_len).of (by (repeat (first | (with_reducible exact SinceOf.refl _) | (with_reducible assumption) | (with_reducible refine SinceOf.alloc ?_ _) | (with_reducible refine SinceOf.drew ?_) | (with_reducible refine SinceOf.drewN ?_ _) | (with_reducible refine SinceOf.later ?_ _) | (with_reducible refine SinceOf.further ?_ _) | (with_reducible refine SinceOf.setCell ?_ (by first | exact Nat.le_refl _ | (simp; done) | omega | (simp; omega)) _))))) (by have := (HH.out.2.1 (w.alloc (.cells #[.int .i64 0, .int .i64 0, .int .i64 2, .int .i64 0, .int .i64 2, .int .i64 2, .int .i64 0, .int .i64 2] 37))).isRow encV_len; simpa using this)).mono ?_
  rintro e _ ⟨A', c', out, rfl, hres, hv, hcap, -, ⟨x1, rfl⟩⟩
  obtain rfl := awake_res hres
  have HV := Lib.hid hv
  clear hres hv hcap
  have RW := fun W (hW : SinceOf x1.wd W) => row_any A' c' awS 1 W (HV.out.of hW) (by decide)
  rw [awS_row] at RW
  have VL := fun W (hW : SinceOf x1.wd W) => valid_any A' c' awS W (HV.out.of hW) (by decide)
  rw [awS_valid] at VL
  have l5 : awS.length = 5 := rfl
  simp only [l5] at RW VL
  simp only [l5]
  go_wp2_with fail
  refine (RW _ (by (repeat (first | (with_reducible exact SinceOf.refl _) | (with_reducible assumption) | (with_reducible refine SinceOf.alloc ?_ _) | (with_reducible refine SinceOf.drew ?_) | (with_reducible refine SinceOf.drewN ?_ _) | (with_reducible refine SinceOf.later ?_ _) | (with_reducible refine SinceOf.further ?_ _) | (with_reducible refine SinceOf.setCell ?_ (by first | exact Nat.le_refl _ | (simp; done) | omega | (simp; omega)) _))))).calls.mono ?_
  rintro e _ ⟨rfl, x2, rfl⟩
  go_wp2_with fail
  refine (same08_any A' _ c' 5 awS awS _ (HV.out.of (by (repeat (first | (with_reducible exact SinceOf.refl _) | (with_reducible assumption) | (with_reducible refine SinceOf.alloc ?_ _) | (with_reducible refine SinceOf.drew ?_) | (with_reducible refine SinceOf.drewN ?_ _) | (with_reducible refine SinceOf.later ?_ _) | (with_reducible refine SinceOf.further ?_ _) | (with_reducible refine SinceOf.setCell ?_ (by first | exact Nat.le_refl _ | (simp; done) | omega | (simp; omega)) _))))) ((HH.out.2.2 _).isRow encV_len) (by decide) (by decide)).calls.mono ?_
  rintro e _ ⟨rfl, x3, rfl⟩
  go_wp2_with fail
  refine (VL _ (by (repeat (first | (with_reducible exact SinceOf.refl _) | (with_reducible assumption) | (with_reducible refine SinceOf.alloc ?_ _) | (with_reducible refine SinceOf.drew ?_) | (with_reducible refine SinceOf.drewN ?_ _) | (with_reducible refine SinceOf.later ?_ _) | (with_reducible refine SinceOf.further ?_ _) | (with_reducible refine SinceOf.setCell ?_ (by first | exact Nat.le_refl _ | (simp; done) | omega | (simp; omega)) _))))).calls.mono ?_
  rintro e _ ⟨rfl, x4, rfl⟩
  go_wp2_with fail
  go_returns
  exact ⟨by first | rfl | simp, by (repeat (first | (with_reducible exact SinceOf.refl _) | (with_reducible assumption) | (with_reducible refine SinceOf.alloc ?_ _) | (with_reducible refine SinceOf.drew ?_) | (with_reducible refine SinceOf.drewN ?_ _) | (with_reducible refine SinceOf.later ?_ _) | (with_reducible refine SinceOf.further ?_ _) | (with_reducible refine SinceOf.setCell ?_ (by first | exact Nat.le_refl _ | (simp; done) | omega | (simp; omega)) _)))⟩
end Go.Proofs.Ytbienlhofkfdpaa
/- Layer 15: the walk of MinkowskiRow. -/
namespace Go.Proofs.Ytbienlhofkfdpaa
open Go.RowKit Go.Sort
set_option linter.unusedVariables false
set_option linter.unusedSimpArgs false
attribute [local go_sem ↓] Go.wp_at_zero Go.wp_at_succ

theorem where_row (r : List Pt) (x y : Int) : (whereM r (x, y) = 2) ↔ ((rowM r y).2.2 = true ∧ (rowM r y).1 ≤ x ∧ x ≤ (rowM r y).2.1) := by
  unfold whereM rowM
  cases hv : validB r
  · simp
  · have hC := validB_iff.1 hv
    have key := rowR_iff hC y x
    cases hi : inV (x, y)
    · simp only [Bool.and_false, Bool.false_eq_true, if_false, true_and]
      have hno : ¬ RowIn r y x := fun hin => by
        have hb := row_box hC hin
        have hbi := boxOf_is (l := r) (by have := hC.1; omega)
        obtain ⟨p1, m1, q1⟩ := hbi.at1
        obtain ⟨p2, m2, q2⟩ := hbi.at2
        obtain ⟨p3, m3, q3⟩ := hbi.at3
        obtain ⟨p4, m4, q4⟩ := hbi.at4
        have n1 := hC.2.2.1 _ m1
        have n2 := hC.2.2.1 _ m2
        have n3 := hC.2.2.1 _ m3
        have n4 := hC.2.2.1 _ m4
        unfold near at n1 n2 n3 n4
        have : inV (x, y) = true := inV_near.2 (by unfold near; simp only; omega)
        rw [hi] at this
        cases this
      rw [key] at hno
      split
      · simp only; omega
      · simp
    · have hp := place_in (m := 8000) (by omega) hC.2.2.1 (inV_near.1 hi)
      simp only [Bool.and_self, if_true, true_and]
      rw [hp]
      change RowIn r y x ↔ _
      rw [key]
      split
      · simp
      · simp; omega
set_option maxRecDepth 100000 in
set_option maxHeartbeats 8000000 in
theorem minkowskiRow_any (A : Option Addr) (c : Nat) (r : List (Int × Int)) (y x : Int) (w : World) (h : IsVecs w A c r) (hl : r.length < 4611686018427387904) : Yields Try.prog 5 #[.slice A r.length c, .int .i64 y, .int .i64 x] w (.bool true) := by
  apply Yields.ret
  have H := Lib.hid h
  clear h
  have F := few15_any A r.length c
  by_cases hf : r.length ≤ 20
  case neg =>
    rw [decide_eq_false hf] at F
    clear hf
    go_enter Try.func5, Try.ntmps5
    go_wp2_with fail
    refine (awake15_any _).mono ?_
    rintro e _ ⟨rfl, x1, rfl⟩
    go_wp2_with fail
    refine (F _).calls.mono ?_
    rintro e _ ⟨rfl, x2, rfl⟩
    go_wp2_with fail
    go_returns
    exact ⟨rfl, by (repeat (first | (with_reducible exact SinceOf.refl _) | (with_reducible assumption) | (with_reducible refine SinceOf.alloc ?_ _) | (with_reducible refine SinceOf.drew ?_) | (with_reducible refine SinceOf.drewN ?_ _) | (with_reducible refine SinceOf.later ?_ _) | (with_reducible refine SinceOf.further ?_ _) | (with_reducible refine SinceOf.setCell ?_ (by first | exact Nat.le_refl _ | (simp; done) | omega | (simp; omega)) _)))⟩
  rw [decide_eq_true hf] at F
  have RW := fun W (hW : SinceOf w W) => row_any A c r y W (H.out.of hW) (by omega)
  have RR := fun W (hW : SinceOf w W) => refRow_any A c r y W (H.out.of hW) (by omega)
  have WH := fun W (hW : SinceOf w W) => where_any A c r x y W (H.out.of hW) (by omega)
  have hk := where_row r x y
  obtain ⟨⟨a, b, ok⟩, hm⟩ : ∃ m, m = rowM r y := ⟨_, rfl⟩
  rw [← hm] at RW RR hk
  simp only at RW RR hk
  generalize whereM r (x, y) = t at *
  clear hm
  go_enter Try.func5, Try.ntmps5
  go_wp2_with fail
  refine (awake15_any _).mono ?_
  rintro e _ ⟨rfl, x1, rfl⟩
  go_wp2_with fail
  refine (F _).calls.mono ?_
  rintro e _ ⟨rfl, x2, rfl⟩
  clear F
  go_wp2_with fail
  go_loopg [7] r.length (fun gas s7 wr => ∃ k : Nat, k ≤ r.length ∧ r.length - k ≤ gas ∧ s7 = .int .i64 k ∧ SinceOf w wr)
  case atStart => exact ⟨0, by omega, by omega, by go_num, by (repeat (first | (with_reducible exact SinceOf.refl _) | (with_reducible assumption) | (with_reducible refine SinceOf.alloc ?_ _) | (with_reducible refine SinceOf.drew ?_) | (with_reducible refine SinceOf.drewN ?_ _) | (with_reducible refine SinceOf.later ?_ _) | (with_reducible refine SinceOf.further ?_ _) | (with_reducible refine SinceOf.setCell ?_ (by first | exact Nat.le_refl _ | (simp; done) | omega | (simp; omega)) _)))⟩
  case round =>
    obtain ⟨k, hk9, hgas, rfl, ⟨u, rfl⟩⟩ := hrel
    by_cases hlt : k < r.length
    · have hr0 := H.out.of (w' := u.wd) (by (repeat (first | (with_reducible exact SinceOf.refl _) | (with_reducible assumption) | (with_reducible refine SinceOf.alloc ?_ _) | (with_reducible refine SinceOf.drew ?_) | (with_reducible refine SinceOf.drewN ?_ _) | (with_reducible refine SinceOf.later ?_ _) | (with_reducible refine SinceOf.further ?_ _) | (with_reducible refine SinceOf.setCell ?_ (by first | exact Nat.le_refl _ | (simp; done) | omega | (simp; omega)) _))))
      obtain ⟨g, off, rfl, hr⟩ := hr0.at_ (by omega)
      have hO := hr.there
      have a0 := hr.v0 k hlt
      have a1 := hr.v1 k hlt
      have W1 := refWithin_any r[k].1 r[k].2 200
      clear hr hr0
      cases hb : withinB r[k].1 r[k].2 200
      · rw [hb] at W1
        clear hb
        go_wp2_with fail
        refine (W1 _).calls.mono ?_
        rintro e _ ⟨rfl, x3, rfl⟩
        go_wp2_with fail
        go_returns
        exact ⟨rfl, by (repeat (first | (with_reducible exact SinceOf.refl _) | (with_reducible assumption) | (with_reducible refine SinceOf.alloc ?_ _) | (with_reducible refine SinceOf.drew ?_) | (with_reducible refine SinceOf.drewN ?_ _) | (with_reducible refine SinceOf.later ?_ _) | (with_reducible refine SinceOf.further ?_ _) | (with_reducible refine SinceOf.setCell ?_ (by first | exact Nat.le_refl _ | (simp; done) | omega | (simp; omega)) _)))⟩
      · rw [hb] at W1
        clear hb
        go_wp2_with fail
        refine (W1 _).calls.mono ?_
        rintro e _ ⟨rfl, x3, rfl⟩
        go_wp2_with fail
        go_roundg (r.length - (k + 1))
        case measure => omega
        case rel => exact ⟨k + 1, hlt, Nat.le_refl _, by go_num, by (repeat (first | (with_reducible exact SinceOf.refl _) | (with_reducible assumption) | (with_reducible refine SinceOf.alloc ?_ _) | (with_reducible refine SinceOf.drew ?_) | (with_reducible refine SinceOf.drewN ?_ _) | (with_reducible refine SinceOf.later ?_ _) | (with_reducible refine SinceOf.further ?_ _) | (with_reducible refine SinceOf.setCell ?_ (by first | exact Nat.le_refl _ | (simp; done) | omega | (simp; omega)) _)))⟩
    · obtain rfl : k = r.length := by omega
      go_wp2_with fail
      refine (RW _ (by (repeat (first | (with_reducible exact SinceOf.refl _) | (with_reducible assumption) | (with_reducible refine SinceOf.alloc ?_ _) | (with_reducible refine SinceOf.drew ?_) | (with_reducible refine SinceOf.drewN ?_ _) | (with_reducible refine SinceOf.later ?_ _) | (with_reducible refine SinceOf.further ?_ _) | (with_reducible refine SinceOf.setCell ?_ (by first | exact Nat.le_refl _ | (simp; done) | omega | (simp; omega)) _))))).calls.mono ?_
      rintro e _ ⟨rfl, x4, rfl⟩
      go_wp2_with fail
      refine (RR _ (by (repeat (first | (with_reducible exact SinceOf.refl _) | (with_reducible assumption) | (with_reducible refine SinceOf.alloc ?_ _) | (with_reducible refine SinceOf.drew ?_) | (with_reducible refine SinceOf.drewN ?_ _) | (with_reducible refine SinceOf.later ?_ _) | (with_reducible refine SinceOf.further ?_ _) | (with_reducible refine SinceOf.setCell ?_ (by first | exact Nat.le_refl _ | (simp; done) | omega | (simp; omega)) _))))).calls.mono ?_
      rintro e _ ⟨rfl, x5, rfl⟩
      go_wp2_with fail
      refine (WH _ (by (repeat (first | (with_reducible exact SinceOf.refl _) | (with_reducible assumption) | (with_reducible refine SinceOf.alloc ?_ _) | (with_reducible refine SinceOf.drew ?_) | (with_reducible refine SinceOf.drewN ?_ _) | (with_reducible refine SinceOf.later ?_ _) | (with_reducible refine SinceOf.further ?_ _) | (with_reducible refine SinceOf.setCell ?_ (by first | exact Nat.le_refl _ | (simp; done) | omega | (simp; omega)) _))))).calls.mono ?_
      rintro e _ ⟨rfl, x6, rfl⟩
      have q1 : (a == a) = true := by simp
      have q2 : (b == b) = true := by simp
      by_cases hin : ok = true ∧ a ≤ x ∧ x ≤ b
      · have g1 : (t == 2) = true := by simpa using hk.2 hin
        obtain ⟨rfl, h2, h3⟩ := hin
        have g2 : decide (a ≤ x) = true := decide_eq_true h2
        have g3 : decide (x ≤ b) = true := decide_eq_true h3
        clear hk h2 h3
        go_wp2_with fail
        go_returns
        exact ⟨by simp, by (repeat (first | (with_reducible exact SinceOf.refl _) | (with_reducible assumption) | (with_reducible refine SinceOf.alloc ?_ _) | (with_reducible refine SinceOf.drew ?_) | (with_reducible refine SinceOf.drewN ?_ _) | (with_reducible refine SinceOf.later ?_ _) | (with_reducible refine SinceOf.further ?_ _) | (with_reducible refine SinceOf.setCell ?_ (by first | exact Nat.le_refl _ | (simp; done) | omega | (simp; omega)) _)))⟩
      · have g1 : (t == 2) = false := by simpa using fun e => hin (hk.1 e)
        have g4 : (ok && decide (a ≤ x) && decide (x ≤ b)) = false := by
          cases ok
          · rfl
          · simp at hin ⊢; omega
        have HG := Lib.hid g4
        clear hk hin g4
        cases ok
        · go_wp2_with fail
          go_returns
          exact ⟨by simp, by (repeat (first | (with_reducible exact SinceOf.refl _) | (with_reducible assumption) | (with_reducible refine SinceOf.alloc ?_ _) | (with_reducible refine SinceOf.drew ?_) | (with_reducible refine SinceOf.drewN ?_ _) | (with_reducible refine SinceOf.later ?_ _) | (with_reducible refine SinceOf.further ?_ _) | (with_reducible refine SinceOf.setCell ?_ (by first | exact Nat.le_refl _ | (simp; done) | omega | (simp; omega)) _)))⟩
        · by_cases h2 : a ≤ x
          · have g2 : decide (a ≤ x) = true := decide_eq_true h2
            have g3 : decide (x ≤ b) = false := by have := HG.out; simp [h2] at this; exact decide_eq_false (by omega)
            clear h2
            go_wp2_with fail
            go_returns
            exact ⟨by simp, by (repeat (first | (with_reducible exact SinceOf.refl _) | (with_reducible assumption) | (with_reducible refine SinceOf.alloc ?_ _) | (with_reducible refine SinceOf.drew ?_) | (with_reducible refine SinceOf.drewN ?_ _) | (with_reducible refine SinceOf.later ?_ _) | (with_reducible refine SinceOf.further ?_ _) | (with_reducible refine SinceOf.setCell ?_ (by first | exact Nat.le_refl _ | (simp; done) | omega | (simp; omega)) _)))⟩
          · have g2 : decide (a ≤ x) = false := decide_eq_false h2
            clear h2
            go_wp2_with fail
            go_returns
            exact ⟨by simp, by (repeat (first | (with_reducible exact SinceOf.refl _) | (with_reducible assumption) | (with_reducible refine SinceOf.alloc ?_ _) | (with_reducible refine SinceOf.drew ?_) | (with_reducible refine SinceOf.drewN ?_ _) | (with_reducible refine SinceOf.later ?_ _) | (with_reducible refine SinceOf.further ?_ _) | (with_reducible refine SinceOf.setCell ?_ (by first | exact Nat.le_refl _ | (simp; done) | omega | (simp; omega)) _)))⟩
end Go.Proofs.Ytbienlhofkfdpaa
