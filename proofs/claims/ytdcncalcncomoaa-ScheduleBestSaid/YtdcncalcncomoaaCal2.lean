/- Contracts of the calendar's leaves: ascending, Valid, time, in, open, shifted; and the reference's. -/
import Derived.Test.YtdcncalcncomoaaBase
import Derived.Test.YtdcncalcncomoaaCalPlain2
namespace Go.Proofs.Ytdcncalcncomoaa
open Go.RowKit
set_option linter.unusedVariables false

theorem equalIn_pair (w : World) (a b c d : Int) : (Op.equalIn 10000 73 (vv a b) (vv c d)).run Try.prog w = .ok (eqv a b c d) w := by
  have c3 : Try.prog.cellsOf 3 = 1 := by kernel_rfl
  obtain ⟨i, hi⟩ : ∃ i, Try.prog.info? 3 = some i := Option.isSome_iff_exists.1 (by kernel_rfl)
  rw [show (10000 : Nat) = 9999 + 1 from rfl, run_equalIn_array w 9999 _ _ Try.underlying73 hi, c3]
  have a3 := Try.isAgg3
  have z3 := Try.sizeOf3
  have u3 := Try.underlying3
  simp only [List.range, List.range.loop, Op.eqItems]
  go_simp
  by_cases h1 : a = c <;> by_cases h2 : b = d <;> simp [h1, h2, eqv]
@[go_sem ↓] theorem eql_pair (w : World) (a b c d : Int) : (binOp .eql 73 (vv a b) (vv c d)).run Try.prog w = .ok (.bool (eqv a b c d)) w := by
  rw [run_eql_struct, equalIn_pair]; rfl
@[go_sem ↓] theorem neq_pair (w : World) (a b c d : Int) : (binOp .neq 73 (vv a b) (vv c d)).run Try.prog w = .ok (.bool (!eqv a b c d)) w := by
  rw [run_neq_struct, equalIn_pair]; rfl
@[go_sem ↓] theorem eqGuard_pair (w : World) (op : BinOp) (x y : Operand) (a b c d : Int) : (eqGuard op 73 x y (vv a b) (vv c d)).run Try.prog w = .ok () w :=
  run_eqGuard_agg w op _ x y _ _ (by kernel_rfl)

abbrev IsIvs (w : World) (A : Option Addr) (c : Nat) (l : List (Int × Int)) : Prop := IsRow encV 2 w A c l
def spansB (most : Int) (l : List (Int × Int)) : Bool := ascI most (-1) l && decide ((l.length : Int) ≤ 20)

theorem ascI_step {most last s0 s1 : Int} {l : List (Int × Int)} {k : Nat} (hk : k < l.length) (hs : (s0, s1) = l[k]) (h1 : last < s0) (h2 : s0 < s1) (h3 : s1 ≤ most) : ascI most last (l.drop k) = ascI most s1 (l.drop (k + 1)) := by
  rw [List.drop_eq_getElem_cons hk, ← hs]; simp [ascI, h1, h2, h3]
theorem ascI_fails {most last s0 s1 : Int} {l : List (Int × Int)} {k : Nat} (hk : k < l.length) (hs : (s0, s1) = l[k]) (h : ¬ (last < s0 ∧ s0 < s1 ∧ s1 ≤ most)) : ascI most last (l.drop k) = false := by
  rw [List.drop_eq_getElem_cons hk, ← hs, Bool.eq_false_iff, ne_eq, ascI_cons]
  intro g; exact h ⟨g.1, g.2.1, g.2.2.1⟩

set_option maxHeartbeats 400000 in
theorem ascending_any (A : Option Addr) (c : Nat) (l : List (Int × Int)) (most : Int) (w : World) (hl : IsIvs w A c l) (hn : l.length < 4611686018427387904) :
    Gives Try.prog 85 #[.slice A l.length c, .int .i64 most] w (.bool (spansB most l)) := by
  apply Gives.ret
  have H := Lib.hid hl
  clear hl
  go_enter Try.func85, Try.ntmps85
  go_wp2
  go_loopg [5, 10] l.length (fun n s5 s10 wr => ∃ (k : Nat) (last : Int), k ≤ l.length ∧ l.length - k ≤ n ∧ s5 = .int .i64 last ∧ s10 = .int .i64 k ∧ LaterOf w wr ∧ ascI most (-1) l = ascI most last (l.drop k))
  case atStart => exact ⟨0, -1, by omega, by omega, rfl, rfl, by (repeat (first | (with_reducible exact LaterOf.refl _) | (with_reducible refine LaterOf.alloc ?_ _) | (with_reducible refine LaterOf.drew ?_) | (with_reducible refine LaterOf.drewN ?_ _) | (with_reducible refine LaterOf.later ?_ _) | (with_reducible refine LaterOf.setCell ?_ (by first | exact Nat.le_refl _ | (simp; done) | omega | (simp; omega)) _))), by simp⟩
  case round =>
    obtain ⟨k, last, hk, hg, rfl, rfl, ⟨z, rfl⟩, heq⟩ := hrel
    have E := Lib.hid heq
    clear heq
    by_cases hlt : k < l.length
    · obtain ⟨g, off, rfl, hr⟩ := (H.out.later z).at_ (by omega)
      have hO := hr.there
      have c0 := hr.v0 k hlt
      have c1 := hr.v1 k hlt
      clear hr
      obtain ⟨⟨s0, s1⟩, hs⟩ : ∃ q, q = l[k] := ⟨_, rfl⟩
      rw [← hs] at c0 c1
      have HS := Lib.hid hs
      clear hs
      simp only at c0 c1
      by_cases hc : last < s0 ∧ s0 < s1 ∧ s1 ≤ most
      · obtain ⟨h1, h2, h3⟩ := hc
        go_wp2_with fail
        go_roundg (l.length - (k + 1))
        case measure => omega
        case rel => exact ⟨k + 1, s1, hlt, Nat.le_refl _, rfl, by go_num, by (repeat (first | (with_reducible exact LaterOf.refl _) | (with_reducible refine LaterOf.alloc ?_ _) | (with_reducible refine LaterOf.drew ?_) | (with_reducible refine LaterOf.drewN ?_ _) | (with_reducible refine LaterOf.later ?_ _) | (with_reducible refine LaterOf.setCell ?_ (by first | exact Nat.le_refl _ | (simp; done) | omega | (simp; omega)) _))), by rw [E.out, ascI_step hlt HS.out h1 h2 h3]⟩
      · have hno : spansB most l = false := by unfold spansB; rw [E.out, ascI_fails hlt HS.out hc]; rfl
        have HN := Lib.hid hno
        clear hno
        have hc3 : (¬ last < s0) ∨ (last < s0 ∧ ¬ s0 < s1) ∨ (last < s0 ∧ s0 < s1 ∧ ¬ s1 ≤ most) := by omega
        rcases hc3 with h1 | ⟨h1, h2⟩ | ⟨h1, h2, h3⟩
        all_goals
          clear hc
          go_wp2_with fail
          go_returns
          rw [HN.out]
          exact ⟨rfl, by (repeat (first | (with_reducible exact LaterOf.refl _) | (with_reducible refine LaterOf.alloc ?_ _) | (with_reducible refine LaterOf.drew ?_) | (with_reducible refine LaterOf.drewN ?_ _) | (with_reducible refine LaterOf.later ?_ _) | (with_reducible refine LaterOf.setCell ?_ (by first | exact Nat.le_refl _ | (simp; done) | omega | (simp; omega)) _)))⟩
    · have hkl : k = l.length := by omega
      have hyes : spansB most l = decide ((l.length : Int) ≤ 20) := by unfold spansB; rw [E.out, hkl, List.drop_length]; rfl
      have HY := Lib.hid hyes
      clear hyes
      go_wp2_with fail
      go_returns
      rw [HY.out]
      exact ⟨rfl, by (repeat (first | (with_reducible exact LaterOf.refl _) | (with_reducible refine LaterOf.alloc ?_ _) | (with_reducible refine LaterOf.drew ?_) | (with_reducible refine LaterOf.drewN ?_ _) | (with_reducible refine LaterOf.later ?_ _) | (with_reducible refine LaterOf.setCell ?_ (by first | exact Nat.le_refl _ | (simp; done) | omega | (simp; omega)) _)))⟩

set_option maxHeartbeats 1000000 in
theorem refRising_any (A : Option Addr) (c : Nat) (l : List (Int × Int)) (most : Int) (w : World) (hl : IsIvs w A c l) (hn : l.length < 4611686018427387904) :
    Gives Try.prog 78 #[.slice A l.length c, .int .i64 most] w (.bool (spansB most l)) := by
  apply Gives.ret
  have H := Lib.hid hl
  clear hl
  go_enter Try.func78, Try.ntmps78
  go_wp2
  go_loopg [5] l.length (fun n s5 wr => ∃ (k : Nat) (last : Int), k ≤ l.length ∧ l.length - k ≤ n ∧ s5 = .int .i64 k ∧ LaterOf w wr ∧ ascI most (-1) l = ascI most last (l.drop k) ∧ (k = 0 → last = -1) ∧ (0 < k → ∃ s0, l[k - 1]? = some (s0, last)) ∧ -1 ≤ last)
  case atStart => exact ⟨0, -1, by omega, by omega, rfl, by (repeat (first | (with_reducible exact LaterOf.refl _) | (with_reducible refine LaterOf.alloc ?_ _) | (with_reducible refine LaterOf.drew ?_) | (with_reducible refine LaterOf.drewN ?_ _) | (with_reducible refine LaterOf.later ?_ _) | (with_reducible refine LaterOf.setCell ?_ (by first | exact Nat.le_refl _ | (simp; done) | omega | (simp; omega)) _))), by simp, fun _ => rfl, fun h => absurd h (Nat.lt_irrefl _), Int.le_refl _⟩
  case round =>
    obtain ⟨k, last, hk, hg, rfl, ⟨z, rfl⟩, heq, hl0, hl1, hl2⟩ := hrel
    have E := Lib.hid heq
    clear heq
    by_cases hlt : k < l.length
    · obtain ⟨g, off, rfl, hr⟩ := (H.out.later z).at_ (by omega)
      have hO := hr.there
      have c0 := hr.v0 k hlt
      have c1 := hr.v1 k hlt
      obtain ⟨⟨s0, s1⟩, hs⟩ : ∃ q, q = l[k] := ⟨_, rfl⟩
      rw [← hs] at c0 c1
      have HS := Lib.hid hs
      clear hs
      simp only at c0 c1
      have hkc : (0 < k ∧ last ≤ last) ∨ (k = 0 ∧ last = -1) := by
        rcases Nat.eq_zero_or_pos k with h | h
        · exact .inr ⟨h, hl0 h⟩
        · exact .inl ⟨h, by omega⟩
      rcases hkc with ⟨hk0, -⟩ | ⟨hk0, rfl⟩
      · have p1 := hr.v1 (k - 1) (by omega)
        obtain ⟨q, hq⟩ := hl1 hk0
        rw [List.getElem?_eq_getElem (by omega)] at hq
        have hq := Option.some.inj hq
        rw [hq] at p1
        clear hr hl0 hl1 hq
        simp only at p1
        have kp : decide (0 < (k : Int)) = true := by simp; omega
        have key : ((decide (s0 < 0) = true ∨ (decide (s0 < 0) = false ∧ decide (s1 ≤ s0) = true) ∨ (decide (s0 < 0) = false ∧ decide (s1 ≤ s0) = false ∧ decide (most < s1) = true) ∨ (decide (s0 < 0) = false ∧ decide (s1 ≤ s0) = false ∧ decide (most < s1) = false ∧ decide (s0 ≤ last) = true)) ∧ ¬ (last < s0 ∧ s0 < s1 ∧ s1 ≤ most)) ∨
            (decide (s0 < 0) = false ∧ decide (s1 ≤ s0) = false ∧ decide (most < s1) = false ∧ decide (s0 ≤ last) = false ∧ last < s0 ∧ s0 < s1 ∧ s1 ≤ most) := by
          simp only [decide_eq_true_eq, decide_eq_false_iff_not]; omega
        rcases key with ⟨hw, hno⟩ | ⟨b1, b2, b3, b4, g1, g2, g3⟩
        · have hno : spansB most l = false := by unfold spansB; rw [E.out, ascI_fails hlt HS.out hno]; rfl
          have HN := Lib.hid hno
          clear hno
          rcases hw with b1 | ⟨b1, b2⟩ | ⟨b1, b2, b3⟩ | ⟨b1, b2, b3, b4⟩
          all_goals
            go_wp2_with fail
            refine region_later (by kernel_rfl) (by kernel_rfl) ?_
            repeat (go_big_quiet_step (fail))
            refine wpQuiet_nil ?_
            rintro _ ⟨z2, rfl⟩
            go_wp2_with fail
            go_returns
            rw [HN.out]
            exact ⟨rfl, by (repeat (first | (with_reducible exact LaterOf.refl _) | (with_reducible refine LaterOf.alloc ?_ _) | (with_reducible refine LaterOf.drew ?_) | (with_reducible refine LaterOf.drewN ?_ _) | (with_reducible refine LaterOf.later ?_ _) | (with_reducible refine LaterOf.setCell ?_ (by first | exact Nat.le_refl _ | (simp; done) | omega | (simp; omega)) _)))⟩
        · go_wp2_with fail
          refine region_later (by kernel_rfl) (by kernel_rfl) ?_
          repeat (go_big_quiet_step (fail))
          refine wpQuiet_nil ?_
          rintro _ ⟨z2, rfl⟩
          go_wp2_with fail
          go_roundg (l.length - (k + 1))
          case measure => omega
          case rel => exact ⟨k + 1, s1, hlt, Nat.le_refl _, by go_num, by (repeat (first | (with_reducible exact LaterOf.refl _) | (with_reducible refine LaterOf.alloc ?_ _) | (with_reducible refine LaterOf.drew ?_) | (with_reducible refine LaterOf.drewN ?_ _) | (with_reducible refine LaterOf.later ?_ _) | (with_reducible refine LaterOf.setCell ?_ (by first | exact Nat.le_refl _ | (simp; done) | omega | (simp; omega)) _))), by rw [E.out, ascI_step hlt HS.out g1 g2 g3], fun h => absurd h (by omega), fun _ => ⟨s0, by rw [Nat.add_sub_cancel, List.getElem?_eq_getElem hlt, HS.out]⟩, by omega⟩
      · have kp : decide (0 < k) = false := by simp; omega
        clear hr hl0 hl1 hk0
        have key : ((decide (s0 < 0) = true ∨ (decide (s0 < 0) = false ∧ decide (s1 ≤ s0) = true) ∨ (decide (s0 < 0) = false ∧ decide (s1 ≤ s0) = false ∧ decide (most < s1) = true)) ∧ ¬ (-1 < s0 ∧ s0 < s1 ∧ s1 ≤ most)) ∨
            (decide (s0 < 0) = false ∧ decide (s1 ≤ s0) = false ∧ decide (most < s1) = false ∧ -1 < s0 ∧ s0 < s1 ∧ s1 ≤ most) := by
          simp only [decide_eq_true_eq, decide_eq_false_iff_not]; omega
        rcases key with ⟨hw, hno⟩ | ⟨b1, b2, b3, g1, g2, g3⟩
        · have hno : spansB most l = false := by unfold spansB; rw [E.out, ascI_fails hlt HS.out hno]; rfl
          have HN := Lib.hid hno
          clear hno
          rcases hw with b1 | ⟨b1, b2⟩ | ⟨b1, b2, b3⟩
          all_goals
            go_wp2_with fail
            refine region_later (by kernel_rfl) (by kernel_rfl) ?_
            repeat (go_big_quiet_step (fail))
            refine wpQuiet_nil ?_
            rintro _ ⟨z2, rfl⟩
            go_wp2_with fail
            go_returns
            rw [HN.out]
            exact ⟨rfl, by (repeat (first | (with_reducible exact LaterOf.refl _) | (with_reducible refine LaterOf.alloc ?_ _) | (with_reducible refine LaterOf.drew ?_) | (with_reducible refine LaterOf.drewN ?_ _) | (with_reducible refine LaterOf.later ?_ _) | (with_reducible refine LaterOf.setCell ?_ (by first | exact Nat.le_refl _ | (simp; done) | omega | (simp; omega)) _)))⟩
        · go_wp2_with fail
          refine region_later (by kernel_rfl) (by kernel_rfl) ?_
          repeat (go_big_quiet_step (fail))
          refine wpQuiet_nil ?_
          rintro _ ⟨z2, rfl⟩
          go_wp2_with fail
          go_roundg (l.length - (k + 1))
          case measure => omega
          case rel => exact ⟨k + 1, s1, hlt, Nat.le_refl _, by go_num, by (repeat (first | (with_reducible exact LaterOf.refl _) | (with_reducible refine LaterOf.alloc ?_ _) | (with_reducible refine LaterOf.drew ?_) | (with_reducible refine LaterOf.drewN ?_ _) | (with_reducible refine LaterOf.later ?_ _) | (with_reducible refine LaterOf.setCell ?_ (by first | exact Nat.le_refl _ | (simp; done) | omega | (simp; omega)) _))), by rw [E.out, ascI_step hlt HS.out g1 g2 g3], fun h => absurd h (by omega), fun _ => ⟨s0, by rw [Nat.add_sub_cancel, List.getElem?_eq_getElem hlt, HS.out]⟩, by omega⟩
    · have hkl : k = l.length := by omega
      have hyes : spansB most l = decide ((l.length : Int) ≤ 20) := by unfold spansB; rw [E.out, hkl, List.drop_length]; rfl
      have HY := Lib.hid hyes
      clear hyes
      clear hl0 hl1 hl2
      go_wp2_with fail
      go_returns
      rw [HY.out]
      exact ⟨rfl, by (repeat (first | (with_reducible exact LaterOf.refl _) | (with_reducible refine LaterOf.alloc ?_ _) | (with_reducible refine LaterOf.drew ?_) | (with_reducible refine LaterOf.drewN ?_ _) | (with_reducible refine LaterOf.later ?_ _) | (with_reducible refine LaterOf.setCell ?_ (by first | exact Nat.le_refl _ | (simp; done) | omega | (simp; omega)) _)))⟩

abbrev CalV (P : Int) (A : Option Addr) (n c : Nat) (B : Option Addr) (m d : Nat) : Value := .agg #[.int .i64 P, .slice A n c, .slice B m d]
def validB (P : Int) (S D : List (Int × Int)) : Bool := decide (1 ≤ P) && decide (P ≤ 10000) && spansB P S && spansB 1000000 D
theorem valid_any (P : Int) (A B : Option Addr) (c d : Nat) (S D : List (Int × Int)) (w : World) (hS : IsIvs w A c S) (hD : IsIvs w B d D) (hn : S.length < 4611686018427387904) (hm : D.length < 4611686018427387904) :
    Gives Try.prog 67 #[CalV P A S.length c B D.length d] w (.bool (validB P S D)) := by
  apply Gives.ret
  have key : (¬ 1 ≤ P ∧ validB P S D = false) ∨ (1 ≤ P ∧ ¬ P ≤ 10000 ∧ validB P S D = false) ∨ (1 ≤ P ∧ P ≤ 10000 ∧ spansB P S = false ∧ validB P S D = false) ∨ (1 ≤ P ∧ P ≤ 10000 ∧ spansB P S = true ∧ validB P S D = spansB 1000000 D) := by
    unfold validB
    by_cases h1 : 1 ≤ P <;> by_cases h2 : P ≤ 10000 <;> cases spansB P S <;> simp [h1, h2]
  have H := Lib.hid (And.intro hS hD)
  clear hS hD
  rcases key with ⟨h1, e⟩ | ⟨h1, h2, e⟩ | ⟨h1, h2, h3, e⟩ | ⟨h1, h2, h3, e⟩
  · rw [e]; clear e
    go_enter Try.func67, Try.ntmps67
    go_wp2_with fail
    go_returns
    exact ⟨rfl, by (repeat (first | (with_reducible exact LaterOf.refl _) | (with_reducible refine LaterOf.alloc ?_ _) | (with_reducible refine LaterOf.drew ?_) | (with_reducible refine LaterOf.drewN ?_ _) | (with_reducible refine LaterOf.later ?_ _) | (with_reducible refine LaterOf.setCell ?_ (by first | exact Nat.le_refl _ | (simp; done) | omega | (simp; omega)) _)))⟩
  · rw [e]; clear e
    go_enter Try.func67, Try.ntmps67
    go_wp2_with fail
    go_returns
    exact ⟨rfl, by (repeat (first | (with_reducible exact LaterOf.refl _) | (with_reducible refine LaterOf.alloc ?_ _) | (with_reducible refine LaterOf.drew ?_) | (with_reducible refine LaterOf.drewN ?_ _) | (with_reducible refine LaterOf.later ?_ _) | (with_reducible refine LaterOf.setCell ?_ (by first | exact Nat.le_refl _ | (simp; done) | omega | (simp; omega)) _)))⟩
  · rw [e]; clear e
    go_enter Try.func67, Try.ntmps67
    go_wp2_with fail
    refine (ascending_any A c S _ _ (H.out.1.of ((SinceOf.refl w).alloc _)) hn).calls.mono ?_
    rintro e _ ⟨rfl, x1, rfl⟩
    go_wp2_with fail
    go_returns
    exact ⟨rfl, by (repeat (first | (with_reducible exact LaterOf.refl _) | (with_reducible refine LaterOf.alloc ?_ _) | (with_reducible refine LaterOf.drew ?_) | (with_reducible refine LaterOf.drewN ?_ _) | (with_reducible refine LaterOf.later ?_ _) | (with_reducible refine LaterOf.setCell ?_ (by first | exact Nat.le_refl _ | (simp; done) | omega | (simp; omega)) _)))⟩
  · rw [e]; clear e
    go_enter Try.func67, Try.ntmps67
    go_wp2_with fail
    refine (ascending_any A c S _ _ (H.out.1.of ((SinceOf.refl w).alloc _)) hn).calls.mono ?_
    rintro e _ ⟨rfl, x1, rfl⟩
    go_wp2_with fail
    refine (ascending_any B d D _ _ (H.out.2.of (((SinceOf.refl w).alloc _).later x1)) hm).calls.mono ?_
    rintro e _ ⟨rfl, x2, rfl⟩
    go_wp2_with fail
    go_returns
    exact ⟨rfl, by (repeat (first | (with_reducible exact LaterOf.refl _) | (with_reducible refine LaterOf.alloc ?_ _) | (with_reducible refine LaterOf.drew ?_) | (with_reducible refine LaterOf.drewN ?_ _) | (with_reducible refine LaterOf.later ?_ _) | (with_reducible refine LaterOf.setCell ?_ (by first | exact Nat.le_refl _ | (simp; done) | omega | (simp; omega)) _)))⟩
theorem refValid_any (P : Int) (A B : Option Addr) (c d : Nat) (S D : List (Int × Int)) (w : World) (hS : IsIvs w A c S) (hD : IsIvs w B d D) (hn : S.length < 4611686018427387904) (hm : D.length < 4611686018427387904) :
    Gives Try.prog 57 #[CalV P A S.length c B D.length d] w (.bool (validB P S D)) := by
  apply Gives.ret
  have key : (¬ 1 ≤ P ∧ validB P S D = false) ∨ (1 ≤ P ∧ ¬ P ≤ 10000 ∧ validB P S D = false) ∨ (1 ≤ P ∧ P ≤ 10000 ∧ spansB P S = false ∧ validB P S D = false) ∨ (1 ≤ P ∧ P ≤ 10000 ∧ spansB P S = true ∧ validB P S D = spansB 1000000 D) := by
    unfold validB
    by_cases h1 : 1 ≤ P <;> by_cases h2 : P ≤ 10000 <;> cases spansB P S <;> simp [h1, h2]
  have H := Lib.hid (And.intro hS hD)
  clear hS hD
  rcases key with ⟨h1, e⟩ | ⟨h1, h2, e⟩ | ⟨h1, h2, h3, e⟩ | ⟨h1, h2, h3, e⟩
  · rw [e]; clear e
    go_enter Try.func57, Try.ntmps57
    go_wp2_with fail
    go_returns
    exact ⟨rfl, by (repeat (first | (with_reducible exact LaterOf.refl _) | (with_reducible refine LaterOf.alloc ?_ _) | (with_reducible refine LaterOf.drew ?_) | (with_reducible refine LaterOf.drewN ?_ _) | (with_reducible refine LaterOf.later ?_ _) | (with_reducible refine LaterOf.setCell ?_ (by first | exact Nat.le_refl _ | (simp; done) | omega | (simp; omega)) _)))⟩
  · rw [e]; clear e
    go_enter Try.func57, Try.ntmps57
    go_wp2_with fail
    go_returns
    exact ⟨rfl, by (repeat (first | (with_reducible exact LaterOf.refl _) | (with_reducible refine LaterOf.alloc ?_ _) | (with_reducible refine LaterOf.drew ?_) | (with_reducible refine LaterOf.drewN ?_ _) | (with_reducible refine LaterOf.later ?_ _) | (with_reducible refine LaterOf.setCell ?_ (by first | exact Nat.le_refl _ | (simp; done) | omega | (simp; omega)) _)))⟩
  · rw [e]; clear e
    go_enter Try.func57, Try.ntmps57
    go_wp2_with fail
    refine (refRising_any A c S _ _ (H.out.1.of ((SinceOf.refl w).alloc _)) hn).calls.mono ?_
    rintro e _ ⟨rfl, x1, rfl⟩
    go_wp2_with fail
    go_returns
    exact ⟨rfl, by (repeat (first | (with_reducible exact LaterOf.refl _) | (with_reducible refine LaterOf.alloc ?_ _) | (with_reducible refine LaterOf.drew ?_) | (with_reducible refine LaterOf.drewN ?_ _) | (with_reducible refine LaterOf.later ?_ _) | (with_reducible refine LaterOf.setCell ?_ (by first | exact Nat.le_refl _ | (simp; done) | omega | (simp; omega)) _)))⟩
  · rw [e]; clear e
    go_enter Try.func57, Try.ntmps57
    go_wp2_with fail
    refine (refRising_any A c S _ _ (H.out.1.of ((SinceOf.refl w).alloc _)) hn).calls.mono ?_
    rintro e _ ⟨rfl, x1, rfl⟩
    go_wp2_with fail
    refine (refRising_any B d D _ _ (H.out.2.of (((SinceOf.refl w).alloc _).later x1)) hm).calls.mono ?_
    rintro e _ ⟨rfl, x2, rfl⟩
    go_wp2_with fail
    go_returns
    exact ⟨rfl, by (repeat (first | (with_reducible exact LaterOf.refl _) | (with_reducible refine LaterOf.alloc ?_ _) | (with_reducible refine LaterOf.drew ?_) | (with_reducible refine LaterOf.drewN ?_ _) | (with_reducible refine LaterOf.later ?_ _) | (with_reducible refine LaterOf.setCell ?_ (by first | exact Nat.le_refl _ | (simp; done) | omega | (simp; omega)) _)))⟩

def timeB (t : Int) : Bool := decide (0 ≤ t) && decide (t ≤ 1000000)
theorem time_any (t : Int) (w : World) : Calls Try.prog 91 #[.int .i64 t] w fun e w' => e = .returned (.bool (timeB t)) ∧ w = w' := by
  have key : (¬ 0 ≤ t ∧ timeB t = false) ∨ (0 ≤ t ∧ ¬ t ≤ 1000000 ∧ timeB t = false) ∨ (0 ≤ t ∧ t ≤ 1000000 ∧ timeB t = true) := by
    unfold timeB
    by_cases h1 : 0 ≤ t <;> by_cases h2 : t ≤ 1000000 <;> simp [h1, h2]
  rcases key with ⟨h1, e⟩ | ⟨h1, h2, e⟩ | ⟨h1, h2, e⟩ <;> rw [e] <;> clear e <;> go_enter Try.func91, Try.ntmps91 <;> go_wp2 <;> go_returns <;> exact ⟨rfl, rfl⟩

set_option maxHeartbeats 1000000 in
theorem refIn_any (A : Option Addr) (c : Nat) (l : List (Int × Int)) (t : Int) (w : World) (hl : IsIvs w A c l) (hn : l.length < 4611686018427387904) :
    Gives Try.prog 60 #[.slice A l.length c, .int .i64 t] w (.bool (inI l t)) := by
  apply Gives.ret
  have H := Lib.hid hl
  clear hl
  go_enter Try.func60, Try.ntmps60
  go_wp2
  go_loopg [5] l.length (fun n s5 wr => ∃ (k : Nat), k ≤ l.length ∧ l.length - k ≤ n ∧ s5 = .int .i64 k ∧ LaterOf w wr ∧ inI l t = inI (l.drop k) t)
  case atStart => exact ⟨0, by omega, by omega, rfl, by (repeat (first | (with_reducible exact LaterOf.refl _) | (with_reducible refine LaterOf.alloc ?_ _) | (with_reducible refine LaterOf.drew ?_) | (with_reducible refine LaterOf.drewN ?_ _) | (with_reducible refine LaterOf.later ?_ _) | (with_reducible refine LaterOf.setCell ?_ (by first | exact Nat.le_refl _ | (simp; done) | omega | (simp; omega)) _))), by simp⟩
  case round =>
    obtain ⟨k, hk, hg, rfl, ⟨z, rfl⟩, heq⟩ := hrel
    have E := Lib.hid heq
    clear heq
    by_cases hlt : k < l.length
    · obtain ⟨g, off, rfl, hr⟩ := (H.out.later z).at_ (by omega)
      have hO := hr.there
      have c0 := hr.v0 k hlt
      have c1 := hr.v1 k hlt
      clear hr
      obtain ⟨⟨s0, s1⟩, hs⟩ : ∃ q, q = l[k] := ⟨_, rfl⟩
      rw [← hs] at c0 c1
      have hst : inI (l.drop k) t = (decide (s0 ≤ t ∧ t < s1) || inI (l.drop (k + 1)) t) := by rw [List.drop_eq_getElem_cons hlt, ← hs, inI_cons]
      have HS := Lib.hid hst
      clear hs hst
      simp only at c0 c1
      have key : (decide (s0 ≤ t) = true ∧ decide (t < s1) = true ∧ decide (s0 ≤ t ∧ t < s1) = true) ∨ (decide (s0 ≤ t) = false ∧ decide (s0 ≤ t ∧ t < s1) = false) ∨ (decide (s0 ≤ t) = true ∧ decide (t < s1) = false ∧ decide (s0 ≤ t ∧ t < s1) = false) := by
        simp only [decide_eq_true_eq, decide_eq_false_iff_not]; omega
      rcases key with ⟨b1, b2, e⟩ | ⟨b1, e⟩ | ⟨b1, b2, e⟩
      · have hyes : inI l t = true := by rw [E.out, HS.out, e]; rfl
        have HY := Lib.hid hyes
        clear hyes e
        go_wp2_with fail
        go_returns
        rw [HY.out]
        exact ⟨rfl, by (repeat (first | (with_reducible exact LaterOf.refl _) | (with_reducible refine LaterOf.alloc ?_ _) | (with_reducible refine LaterOf.drew ?_) | (with_reducible refine LaterOf.drewN ?_ _) | (with_reducible refine LaterOf.later ?_ _) | (with_reducible refine LaterOf.setCell ?_ (by first | exact Nat.le_refl _ | (simp; done) | omega | (simp; omega)) _)))⟩
      all_goals
        have HE := Lib.hid e
        clear e
        go_wp2_with fail
        go_roundg (l.length - (k + 1))
        case measure => omega
        case rel => exact ⟨k + 1, hlt, Nat.le_refl _, by go_num, by (repeat (first | (with_reducible exact LaterOf.refl _) | (with_reducible refine LaterOf.alloc ?_ _) | (with_reducible refine LaterOf.drew ?_) | (with_reducible refine LaterOf.drewN ?_ _) | (with_reducible refine LaterOf.later ?_ _) | (with_reducible refine LaterOf.setCell ?_ (by first | exact Nat.le_refl _ | (simp; done) | omega | (simp; omega)) _))), by rw [E.out, HS.out, HE.out, Bool.false_or]⟩
    · have hno : inI l t = false := by rw [E.out, show k = l.length from by omega, List.drop_length]; rfl
      have HN := Lib.hid hno
      clear hno
      go_wp2_with fail
      go_returns
      rw [HN.out]
      exact ⟨rfl, by (repeat (first | (with_reducible exact LaterOf.refl _) | (with_reducible refine LaterOf.alloc ?_ _) | (with_reducible refine LaterOf.drew ?_) | (with_reducible refine LaterOf.drewN ?_ _) | (with_reducible refine LaterOf.later ?_ _) | (with_reducible refine LaterOf.setCell ?_ (by first | exact Nat.le_refl _ | (simp; done) | omega | (simp; omega)) _)))⟩
end Go.Proofs.Ytdcncalcncomoaa
/- Contracts of the calendar: the reference's open; shifted, work. -/
namespace Go.Proofs.Ytdcncalcncomoaa
open Go.RowKit
set_option linter.unusedVariables false

theorem refOpen_any (P t : Int) (A B : Option Addr) (c d : Nat) (S D : List (Int × Int)) (w : World) (hS : IsIvs w A c S) (hD : IsIvs w B d D) (hn : S.length < 4611686018427387904) (hm : D.length < 4611686018427387904) (hP : 1 ≤ P) (hP2 : P ≤ 10000) (h0 : 0 ≤ t) (h1 : t ≤ 2000000) :
    Gives Try.prog 39 #[CalV P A S.length c B D.length d, .int .i64 t] w (.bool (openI P S D t)) := by
  apply Gives.ret
  unfold openI
  have C2 : ∀ x : Later (w.alloc (.cells #[.int .i64 P, .slice A S.length c, .slice B D.length d] 58)), Gives Try.prog 60 #[.slice B D.length d, .int .i64 t] x.wd (.bool (inI D t)) := fun x => refIn_any B d D t x.wd ((hD.of ((SinceOf.refl w).alloc _)).later x) hm
  have C1 : ∀ x : Later (w.alloc (.cells #[.int .i64 P, .slice A S.length c, .slice B D.length d] 58)), Gives Try.prog 60 #[.slice A S.length c, .int .i64 (t % P)] x.wd (.bool (inI S (t % P))) := fun x => refIn_any A c S _ x.wd ((hS.of ((SinceOf.refl w).alloc _)).later x) hn
  clear hS hD
  cases hi : inI S (t % P)
  · rw [hi] at C1
    clear hi
    go_enter Try.func39, Try.ntmps39
    go_wp2_with fail
    refine region_later (by kernel_rfl) (by kernel_rfl) ?_
    repeat (go_big_quiet_step (exact Gives.later (C1 _)))
    refine wpQuiet_nil ?_
    rintro _ ⟨z2, rfl⟩
    go_wp2_with fail
    go_returns
    exact ⟨rfl, by (repeat (first | (with_reducible exact LaterOf.refl _) | (with_reducible refine LaterOf.alloc ?_ _) | (with_reducible refine LaterOf.drew ?_) | (with_reducible refine LaterOf.drewN ?_ _) | (with_reducible refine LaterOf.later ?_ _) | (with_reducible refine LaterOf.setCell ?_ (by first | exact Nat.le_refl _ | (simp; done) | omega | (simp; omega)) _)))⟩
  · rw [hi] at C1
    clear hi
    go_enter Try.func39, Try.ntmps39
    go_wp2_with fail
    refine region_later (by kernel_rfl) (by kernel_rfl) ?_
    repeat (go_big_quiet_step ((first | (with_reducible exact Gives.later (C1 _)) | (with_reducible exact Gives.later (C2 _)))))
    refine wpQuiet_nil ?_
    rintro _ ⟨z2, rfl⟩
    go_wp2_with fail
    go_returns
    exact ⟨rfl, by (repeat (first | (with_reducible exact LaterOf.refl _) | (with_reducible refine LaterOf.alloc ?_ _) | (with_reducible refine LaterOf.drew ?_) | (with_reducible refine LaterOf.drewN ?_ _) | (with_reducible refine LaterOf.later ?_ _) | (with_reducible refine LaterOf.setCell ?_ (by first | exact Nat.le_refl _ | (simp; done) | omega | (simp; omega)) _)))⟩

theorem restI_le (r : Int) {most : Int} : ∀ {l : List (Int × Int)} {last : Int}, ascI most last l = true → restI r l ≤ wholeI l
  | [], _, _ => Int.le_refl _
  | s :: l, last, h => by
    rw [ascI_cons] at h
    have := restI_le r h.2.2.2
    simp only [restI, wholeI]; omega
theorem int_eq {k : IntKind} {a b : Int} (h : a = b) : Value.int k a = Value.int k b := by rw [h]
theorem ret_int {k : IntKind} {a b : Int} (h : a = b) : Ending.returned (.int k a) = .returned (.int k b) := by rw [h]
set_option maxHeartbeats 1000000 in
theorem shifted_any (P t : Int) (A B : Option Addr) (c d n : Nat) (S : List (Int × Int)) (w : World) (hS : IsIvs w A c S) (hn : S.length < 4611686018427387904) (hP : 1 ≤ P) (hP2 : P ≤ 10000) (h0 : 0 ≤ t) (h1 : t ≤ 2000000) (ha : ascI P (-1) S = true) :
    Gives Try.prog 100 #[CalV P A S.length c B n d, .int .i64 t] w (.int .i64 (shiftedI P S t)) := by
  apply Gives.ret
  have hw1 := wholeI_le ha (by omega)
  have hw0 := wholeI_nonneg ha
  have hr1 := restI_le (t % P) ha
  have hr0 := restI_nonneg (t % P) S
  have hq0 : 0 ≤ t / P := Int.ediv_nonneg h0 (by omega)
  have hq1 : t / P ≤ 2000000 := Int.le_trans (Int.ediv_le_self P h0) h1
  have hm0 := Int.emod_nonneg t (show P ≠ 0 by omega)
  have hm1 := Int.emod_lt_of_pos t (show 0 < P by omega)
  have H := Lib.hid (And.intro hS ha)
  clear hS ha
  go_enter Try.func100, Try.ntmps100
  go_wp2
  go_loopg [5, 6, 12] S.length (fun m s5 s6 s12 wr => ∃ (k : Nat) (last x y : Int), k ≤ S.length ∧ S.length - k ≤ m ∧ s5 = .int .i64 x ∧ s6 = .int .i64 y ∧ s12 = .int .i64 k ∧ LaterOf (w.alloc (.cells #[.int .i64 P, .slice A S.length c, .slice B n d] 74)) wr ∧
    0 ≤ x ∧ 0 ≤ y ∧ x + wholeI (S.drop k) = wholeI S ∧ y + restI (t % P) (S.drop k) = restI (t % P) S ∧ ascI P last (S.drop k) = true ∧ -1 ≤ last)
  case atStart => exact ⟨0, -1, 0, 0, by omega, by omega, rfl, rfl, rfl, by (repeat (first | (with_reducible exact LaterOf.refl _) | (with_reducible refine LaterOf.alloc ?_ _) | (with_reducible refine LaterOf.drew ?_) | (with_reducible refine LaterOf.drewN ?_ _) | (with_reducible refine LaterOf.later ?_ _) | (with_reducible refine LaterOf.setCell ?_ (by first | exact Nat.le_refl _ | (simp; done) | omega | (simp; omega)) _))), Int.le_refl _, Int.le_refl _, by simp, by simp, H.out.2, Int.le_refl _⟩
  case round =>
    obtain ⟨k, last, x, y, hk, hg, rfl, rfl, rfl, ⟨z, rfl⟩, hx, hy, ex, ey, hasc, hla⟩ := hrel
    have E := Lib.hid (And.intro ex (And.intro ey hasc))
    have hxw := wholeI_nonneg hasc
    have hyr := restI_nonneg (t % P) (S.drop k)
    have hxb : x ≤ 10001 := by omega
    have hyb : y ≤ 10001 := by omega
    clear ex ey hxw hyr
    by_cases hlt : k < S.length
    · obtain ⟨g, off, rfl, hr⟩ := ((H.out.1.of ((SinceOf.refl w).alloc _)).later z).at_ (by omega)
      have hO := hr.there
      have c0 := hr.v0 k hlt
      have c1 := hr.v1 k hlt
      clear hr
      obtain ⟨⟨s0, s1⟩, hs⟩ : ∃ q, q = S[k] := ⟨_, rfl⟩
      rw [← hs] at c0 c1
      have hst : S.drop k = (s0, s1) :: S.drop (k + 1) := by rw [List.drop_eq_getElem_cons hlt, ← hs]
      have hstep := hasc
      rw [hst, ascI_cons] at hstep
      have HS := Lib.hid (And.intro hst hstep)
      have hlo : 0 ≤ s0 ∧ s0 < s1 ∧ s1 ≤ P := ⟨by omega, hstep.2.1, hstep.2.2.1⟩
      obtain ⟨hl0, hl1, hl2⟩ := hlo
      clear hs hst hstep hasc
      simp only at c0 c1
      go_wp2_with fail
      refine region_later (by kernel_rfl) (by kernel_rfl) ?_
      repeat (go_big_quiet_step (fail))
      refine wpQuiet_nil ?_
      rintro _ ⟨z2, rfl⟩
      go_wp2_with fail
      go_roundg (S.length - (k + 1))
      case measure => omega
      case rel =>
        obtain ⟨e1, e2, e3⟩ := E.out
        obtain ⟨f1, f2⟩ := HS.out
        rw [f1] at e1 e2
        simp only [wholeI, restI] at e1 e2
        exact ⟨k + 1, s1, x + (s1 - s0), y + max 0 (min (t % P) s1 - s0), hlt, Nat.le_refl _, rfl, int_eq (by rw [imax_eq, imin_eq]; unfold wrap64; omega), by go_num, by (repeat (first | (with_reducible exact LaterOf.refl _) | (with_reducible refine LaterOf.alloc ?_ _) | (with_reducible refine LaterOf.drew ?_) | (with_reducible refine LaterOf.drewN ?_ _) | (with_reducible refine LaterOf.later ?_ _) | (with_reducible refine LaterOf.setCell ?_ (by first | exact Nat.le_refl _ | (simp; done) | omega | (simp; omega)) _))), by omega, by omega, by omega, by omega, f2.2.2.2, by omega⟩
    · obtain ⟨e1, e2, -⟩ := E.out
      rw [show k = S.length from by omega, List.drop_length] at e1 e2
      simp only [wholeI, restI, Int.add_zero] at e1 e2
      have hm : t / P * x ≤ 2000000 * 10001 := Int.mul_le_mul hq1 hxb hx (by omega)
      have hm2 : 0 ≤ t / P * x := Int.mul_nonneg hq0 hx
      have HE := Lib.hid (And.intro e1 (And.intro e2 (And.intro hm hm2)))
      clear e1 e2 hm hm2
      go_wp2_with fail
      go_returns
      obtain ⟨e1, e2, hm, hm2⟩ := HE.out
      refine ⟨ret_int ?_, by (repeat (first | (with_reducible exact LaterOf.refl _) | (with_reducible refine LaterOf.alloc ?_ _) | (with_reducible refine LaterOf.drew ?_) | (with_reducible refine LaterOf.drewN ?_ _) | (with_reducible refine LaterOf.later ?_ _) | (with_reducible refine LaterOf.setCell ?_ (by first | exact Nat.le_refl _ | (simp; done) | omega | (simp; omega)) _)))⟩
      unfold shiftedI
      rw [← e1, ← e2]
      generalize t / P * x = m at *
      unfold wrap64; omega

theorem shiftedI_cnt {P : Int} {S : List (Int × Int)} (hP : 1 ≤ P) (hS : ascI P (-1) S = true) (n : Nat) : shiftedI P S n = cnt (fun u => inI S (u % P)) 0 n := by
  induction n with
  | zero =>
    have h1 := Int.zero_ediv P
    have h2 := Int.zero_emod P
    unfold shiftedI
    rw [show ((0 : Nat) : Int) = 0 from rfl, h1, h2, restI_start 0 hS (by omega)]; simp [cnt]
  | succ n ih =>
    rw [show ((n + 1 : Nat) : Int) = (n : Int) + 1 from by omega, shiftedI_succ hP hS, ih]; simp [cnt]
theorem shiftedI_bounds {P t : Int} {S : List (Int × Int)} (hP : 1 ≤ P) (hS : ascI P (-1) S = true) (h0 : 0 ≤ t) : 0 ≤ shiftedI P S t ∧ shiftedI P S t ≤ t := by
  obtain ⟨n, rfl⟩ := Int.eq_ofNat_of_zero_le h0
  have := cnt_bounds (fun u => inI S (u % P)) 0 n
  rw [← shiftedI_cnt hP hS] at this
  exact this

theorem workI_bounds {P : Int} {S D : List (Int × Int)} {most last : Int} (hP : 1 ≤ P) (hS : ascI P (-1) S = true) (hD : ascI most last D = true) {a b : Int} (hab : a ≤ b) : 0 ≤ workI P S D a b ∧ workI P S D a b ≤ b - a := by
  obtain ⟨n, hn⟩ := Int.eq_ofNat_of_zero_le (show 0 ≤ b - a by omega)
  obtain rfl : b = a + n := by omega
  rw [workI_cnt hP hS hD]
  have := cnt_bounds (openI P S D) a n
  omega
set_option maxHeartbeats 2000000 in
theorem work_any (P a b : Int) (A B : Option Addr) (c d : Nat) (S D : List (Int × Int)) (w : World) (hS : IsIvs w A c S) (hD : IsIvs w B d D) (hn : S.length < 4611686018427387904) (hm : D.length < 4611686018427387904) (hP : 1 ≤ P) (hP2 : P ≤ 10000)
    (h0 : 0 ≤ a) (h1 : a ≤ b) (h2 : b ≤ 2000000) (haS : ascI P (-1) S = true) (haD : ascI 1000000 (-1) D = true) :
    Gives Try.prog 94 #[CalV P A S.length c B D.length d, .int .i64 a, .int .i64 b] w (.int .i64 (workI P S D a b)) := by
  apply Gives.ret
  have C1 : ∀ W, SinceOf w W → ∀ t, 0 ≤ t → t ≤ 2000000 → Gives Try.prog 100 #[CalV P A S.length c B D.length d, .int .i64 t] W (.int .i64 (shiftedI P S t)) :=
    fun W hW t g0 g1 => shifted_any P t A B c d D.length S W (hS.of hW) hn hP hP2 g0 g1 haS
  have hb := workI_bounds hP haS haD h1
  have H := Lib.hid (And.intro hD (And.intro haD hb))
  clear hS hD haS haD hb
  go_enter Try.func94, Try.ntmps94
  go_wp2_with fail
  refine region_later (by kernel_rfl) (by kernel_rfl) ?_
  repeat (go_big_quiet_step ((first | (with_reducible exact Gives.later (C1 _ (by (repeat (first | (with_reducible exact SinceOf.refl _) | (with_reducible assumption) | (with_reducible refine SinceOf.alloc ?_ _) | (with_reducible refine SinceOf.drew ?_) | (with_reducible refine SinceOf.drewN ?_ _) | (with_reducible refine SinceOf.later ?_ _) | (with_reducible refine SinceOf.further ?_ _) | (with_reducible refine SinceOf.setCell ?_ (by first | exact Nat.le_refl _ | (simp; done) | omega | (simp; omega)) _)))) a (by omega) (by omega))) | (with_reducible exact Gives.later (C1 _ (by (repeat (first | (with_reducible exact SinceOf.refl _) | (with_reducible assumption) | (with_reducible refine SinceOf.alloc ?_ _) | (with_reducible refine SinceOf.drew ?_) | (with_reducible refine SinceOf.drewN ?_ _) | (with_reducible refine SinceOf.later ?_ _) | (with_reducible refine SinceOf.further ?_ _) | (with_reducible refine SinceOf.setCell ?_ (by first | exact Nat.le_refl _ | (simp; done) | omega | (simp; omega)) _)))) b (by omega) (by omega))))))
  refine wpQuiet_nil ?_
  rintro _ ⟨x1, rfl⟩
  go_wp2_with fail
  go_loopg [7, 22] D.length (fun m s7 s22 wr => ∃ (k : Nat) (last x : Int), k ≤ D.length ∧ D.length - k ≤ m ∧ s7 = .int .i64 x ∧ s22 = .int .i64 k ∧ LaterOf x1.wd wr ∧ x = wrap64 (workI P S D a b + lostI P S a b (D.drop k)) ∧ ascI 1000000 last (D.drop k) = true ∧ -1 ≤ last)
  case atStart => exact ⟨0, -1, _, by omega, by omega, rfl, rfl, by (repeat (first | (with_reducible exact LaterOf.refl _) | (with_reducible refine LaterOf.alloc ?_ _) | (with_reducible refine LaterOf.drew ?_) | (with_reducible refine LaterOf.drewN ?_ _) | (with_reducible refine LaterOf.later ?_ _) | (with_reducible refine LaterOf.setCell ?_ (by first | exact Nat.le_refl _ | (simp; done) | omega | (simp; omega)) _))), by unfold workI; rw [List.drop_zero]; congr 1; omega, H.out.2.1, Int.le_refl _⟩
  case round =>
    obtain ⟨k, last, x, hk, hg, rfl, rfl, ⟨z, rfl⟩, hx, hasc, hla⟩ := hrel
    have E := Lib.hid (And.intro hx hasc)
    clear hx
    by_cases hlt : k < D.length
    · obtain ⟨g, off, rfl, hr⟩ := (((H.out.1.of ((SinceOf.refl w).alloc _)).later x1).later z).at_ (by omega)
      have hO := hr.there
      have c0 := hr.v0 k hlt
      have c1 := hr.v1 k hlt
      clear hr
      obtain ⟨⟨d0, d1⟩, hs⟩ : ∃ q, q = D[k] := ⟨_, rfl⟩
      rw [← hs] at c0 c1
      have hst : D.drop k = (d0, d1) :: D.drop (k + 1) := by rw [List.drop_eq_getElem_cons hlt, ← hs]
      have hstep := hasc
      rw [hst, ascI_cons] at hstep
      have HS := Lib.hid (And.intro hst hstep)
      have hlo : 0 ≤ d0 ∧ d0 < d1 ∧ d1 ≤ 1000000 := ⟨by omega, hstep.2.1, hstep.2.2.1⟩
      obtain ⟨hl0, hl1, hl2⟩ := hlo
      clear hs hst hstep hasc
      simp only at c0 c1
      have m0 : 0 ≤ imax a d0 ∧ imax a d0 ≤ 2000000 := by rw [imax_eq]; omega
      have m1 : 0 ≤ imin b d1 ∧ imin b d1 ≤ 2000000 := by rw [imin_eq]; omega
      obtain ⟨m0, m2⟩ := m0
      obtain ⟨m1, m3⟩ := m1
      by_cases hcut : imax a d0 < imin b d1
      · go_wp2_with fail
        refine region_later (by kernel_rfl) (by kernel_rfl) ?_
        repeat (go_big_quiet_step (fail))
        refine wpQuiet_nil ?_
        rintro _ ⟨z2, rfl⟩
        go_wp2_with fail
        refine region_later (by kernel_rfl) (by kernel_rfl) ?_
        repeat (go_big_quiet_step ((first | (with_reducible exact Gives.later (C1 _ (by (repeat (first | (with_reducible exact SinceOf.refl _) | (with_reducible assumption) | (with_reducible refine SinceOf.alloc ?_ _) | (with_reducible refine SinceOf.drew ?_) | (with_reducible refine SinceOf.drewN ?_ _) | (with_reducible refine SinceOf.later ?_ _) | (with_reducible refine SinceOf.further ?_ _) | (with_reducible refine SinceOf.setCell ?_ (by first | exact Nat.le_refl _ | (simp; done) | omega | (simp; omega)) _)))) (imax a d0) (by omega) (by omega))) | (with_reducible exact Gives.later (C1 _ (by (repeat (first | (with_reducible exact SinceOf.refl _) | (with_reducible assumption) | (with_reducible refine SinceOf.alloc ?_ _) | (with_reducible refine SinceOf.drew ?_) | (with_reducible refine SinceOf.drewN ?_ _) | (with_reducible refine SinceOf.later ?_ _) | (with_reducible refine SinceOf.further ?_ _) | (with_reducible refine SinceOf.setCell ?_ (by first | exact Nat.le_refl _ | (simp; done) | omega | (simp; omega)) _)))) (imin b d1) (by omega) (by omega))))))
        refine wpQuiet_nil ?_
        rintro _ ⟨z3, rfl⟩
        go_wp2_with fail
        go_roundg (D.length - (k + 1))
        case measure => omega
        case rel =>
          obtain ⟨f1, f2⟩ := HS.out
          refine ⟨k + 1, d1, _, hlt, Nat.le_refl _, rfl, by go_num, by (repeat (first | (with_reducible exact LaterOf.refl _) | (with_reducible refine LaterOf.alloc ?_ _) | (with_reducible refine LaterOf.drew ?_) | (with_reducible refine LaterOf.drewN ?_ _) | (with_reducible refine LaterOf.later ?_ _) | (with_reducible refine LaterOf.setCell ?_ (by first | exact Nat.le_refl _ | (simp; done) | omega | (simp; omega)) _))), ?_, f2.2.2.2, by omega⟩
          have e := E.out.1
          rw [f1] at e
          simp only [lostI] at e
          rw [imax_eq, imin_eq] at hcut
          rw [if_pos hcut] at e
          rw [e, imax_eq, imin_eq]
          unfold wrap64; omega
      · go_wp2_with fail
        refine region_later (by kernel_rfl) (by kernel_rfl) ?_
        repeat (go_big_quiet_step (fail))
        refine wpQuiet_nil ?_
        rintro _ ⟨z2, rfl⟩
        go_wp2_with fail
        go_roundg (D.length - (k + 1))
        case measure => omega
        case rel =>
          obtain ⟨f1, f2⟩ := HS.out
          refine ⟨k + 1, d1, _, hlt, Nat.le_refl _, rfl, by go_num, by (repeat (first | (with_reducible exact LaterOf.refl _) | (with_reducible refine LaterOf.alloc ?_ _) | (with_reducible refine LaterOf.drew ?_) | (with_reducible refine LaterOf.drewN ?_ _) | (with_reducible refine LaterOf.later ?_ _) | (with_reducible refine LaterOf.setCell ?_ (by first | exact Nat.le_refl _ | (simp; done) | omega | (simp; omega)) _))), ?_, f2.2.2.2, by omega⟩
          have e := E.out.1
          rw [f1] at e
          simp only [lostI] at e
          rw [imax_eq, imin_eq] at hcut
          rw [if_neg (by omega), Int.zero_add] at e
          exact e
    · have e := E.out.1
      rw [show k = D.length from by omega, List.drop_length] at e
      simp only [lostI, Int.add_zero] at e
      have HE := Lib.hid e
      clear e
      go_wp2_with fail
      go_returns
      refine ⟨ret_int ?_, by (repeat (first | (with_reducible exact LaterOf.refl _) | (with_reducible refine LaterOf.alloc ?_ _) | (with_reducible refine LaterOf.drew ?_) | (with_reducible refine LaterOf.drewN ?_ _) | (with_reducible refine LaterOf.later ?_ _) | (with_reducible refine LaterOf.setCell ?_ (by first | exact Nat.le_refl _ | (simp; done) | omega | (simp; omega)) _)))⟩
      rw [HE.out]
      have := H.out.2.2
      unfold wrap64; omega
end Go.Proofs.Ytdcncalcncomoaa
