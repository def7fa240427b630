/- Contracts of the calendar's leaves: ascending, Valid, time, in, open, shifted; and the reference's. -/
import Derived.Test.YtdcncalcncomoaaBase
import Derived.Test.YtdcncalcncomoaaCalPlain2
namespace Go.Proofs.Ytdcncalcncomoaa
open Go.RowKit
set_option linter.unusedVariables false

theorem equalIn_pair (w : World) (a b c d : Int) : (Op.equalIn 10000 73 (vv a b) (vv c d)).run Try.prog w = .ok (eqv a b c d) w := by
  have c3 : Try.prog.cellsOf 3 = 1 := by kernel_rfl
  obtain ⟨i, hi⟩ : ∃ i, Try.prog.info? 3 = some i := Option.isSome_iff_exists.1 (by kernel_rfl)
  rw [show (10000 : Nat) = 9999 + 1 from rfl, run_equalIn_array w 9999 _ _ Try.underlying73 hi, c3]
  have a3 := Try.isAgg3
  have z3 := Try.sizeOf3
  have u3 := Try.underlying3
  simp only [List.range, List.range.loop, Op.eqItems]
  go_simp
  by_cases h1 : a = c <;> by_cases h2 : b = d <;> simp [h1, h2, eqv]
@[go_sem ↓] theorem eql_pair (w : World) (a b c d : Int) : (binOp .eql 73 (vv a b) (vv c d)).run Try.prog w = .ok (.bool (eqv a b c d)) w := by
  rw [run_eql_struct, equalIn_pair]; rfl
@[go_sem ↓] theorem neq_pair (w : World) (a b c d : Int) : (binOp .neq 73 (vv a b) (vv c d)).run Try.prog w = .ok (.bool (!eqv a b c d)) w := by
  rw [run_neq_struct, equalIn_pair]; rfl
@[go_sem ↓] theorem eqGuard_pair (w : World) (op : BinOp) (x y : Operand) (a b c d : Int) : (eqGuard op 73 x y (vv a b) (vv c d)).run Try.prog w = .ok () w :=
  run_eqGuard_agg w op _ x y _ _ (by kernel_rfl)

abbrev IsIvs (w : World) (A : Option Addr) (c : Nat) (l : List (Int × Int)) : Prop := IsRow encV 2 w A c l
def spansB (most : Int) (l : List (Int × Int)) : Bool := ascI most (-1) l && decide ((l.length : Int) ≤ 20)

theorem ascI_step {most last s0 s1 : Int} {l : List (Int × Int)} {k : Nat} (hk : k < l.length) (hs : (s0, s1) = l[k]) (h1 : last < s0) (h2 : s0 < s1) (h3 : s1 ≤ most) : ascI most last (l.drop k) = ascI most s1 (l.drop (k + 1)) := by
  rw [List.drop_eq_getElem_cons hk, ← hs]; simp [ascI, h1, h2, h3]
theorem ascI_fails {most last s0 s1 : Int} {l : List (Int × Int)} {k : Nat} (hk : k < l.length) (hs : (s0, s1) = l[k]) (h : ¬ (last < s0 ∧ s0 < s1 ∧ s1 ≤ most)) : ascI most last (l.drop k) = false := by
  rw [List.drop_eq_getElem_cons hk, ← hs, Bool.eq_false_iff, ne_eq, ascI_cons]
  intro g; exact h ⟨g.1, g.2.1, g.2.2.1⟩

set_option maxHeartbeats 400000 in
theorem ascending_any (A : Option Addr) (c : Nat) (l : List (Int × Int)) (most : Int) (w : World) (hl : IsIvs w A c l) (hn : l.length < 4611686018427387904) :
    Gives Try.prog 85 #[.slice A l.length c, .int .i64 most] w (.bool (spansB most l)) := by
  apply Gives.ret
  have H := Lib.hid hl
  clear hl
  go_enter Try.func85, Try.ntmps85
  go_wp2
  go_loopg [5, 10] l.length (fun n s5 s10 wr => ∃ (k : Nat) (last : Int), k ≤ l.length ∧ l.length - k ≤ n ∧ s5 = .int .i64 last ∧ s10 = .int .i64 k ∧ LaterOf w wr ∧ ascI most (-1) l = ascI most last (l.drop k))
  case atStart => exact ⟨0, -1, by omega, by omega, rfl, rfl, by (repeat (first | (with_reducible exact LaterOf.refl _) | (with_reducible refine LaterOf.alloc ?_ _) | (with_reducible refine LaterOf.drew ?_) | (with_reducible refine LaterOf.drewN ?_ _) | (with_reducible refine LaterOf.later ?_ _) | (with_reducible refine LaterOf.setCell ?_ (by first | exact Nat.le_refl _ | (simp; done) | omega | (simp; omega)) _))), by simp⟩
  case round =>
    obtain ⟨k, last, hk, hg, rfl, rfl, ⟨z, rfl⟩, heq⟩ := hrel
    have E := Lib.hid heq
    clear heq
    by_cases hlt : k < l.length
    · obtain ⟨g, off, rfl, hr⟩ := (H.out.later z).at_ (by omega)
      have hO := hr.there
      have c0 := hr.v0 k hlt
      have c1 := hr.v1 k hlt
      clear hr
      obtain ⟨⟨s0, s1⟩, hs⟩ : ∃ q, q = l[k] := ⟨_, rfl⟩
      rw [← hs] at c0 c1
      have HS := Lib.hid hs
      clear hs
      simp only at c0 c1
      by_cases hc : last < s0 ∧ s0 < s1 ∧ s1 ≤ most
      · obtain ⟨h1, h2, h3⟩ := hc
        go_wp2_with fail
        go_roundg (l.length - (k + 1))
        case measure => omega
        case rel => exact ⟨k + 1, s1, hlt, Nat.le_refl _, rfl, by go_num, by (repeat (first | (with_reducible exact LaterOf.refl _) | (with_reducible refine LaterOf.alloc ?_ _) | (with_reducible refine LaterOf.drew ?_) | (with_reducible refine LaterOf.drewN ?_ _) | (with_reducible refine LaterOf.later ?_ _) | (with_reducible refine LaterOf.setCell ?_ (by first | exact Nat.le_refl _ | (simp; done) | omega | (simp; omega)) _))), by rw [E.out, ascI_step hlt HS.out h1 h2 h3]⟩
      · have hno : spansB most l = false := by unfold spansB; rw [E.out, ascI_fails hlt HS.out hc]; rfl
        have HN := Lib.hid hno
        clear hno
        have hc3 : (¬ last < s0) ∨ (last < s0 ∧ ¬ s0 < s1) ∨ (last < s0 ∧ s0 < s1 ∧ ¬ s1 ≤ most) := by omega
        rcases hc3 with h1 | ⟨h1, h2⟩ | ⟨h1, h2, h3⟩
        all_goals
          clear hc
          go_wp2_with fail
          go_returns
          rw [HN.out]
          exact ⟨rfl, by (repeat (first | (with_reducible exact LaterOf.refl _) | (with_reducible refine LaterOf.alloc ?_ _) | (with_reducible refine LaterOf.drew ?_) | (with_reducible refine LaterOf.drewN ?_ _) | (with_reducible refine LaterOf.later ?_ _) | (with_reducible refine LaterOf.setCell ?_ (by first | exact Nat.le_refl _ | (simp; done) | omega | (simp; omega)) _)))⟩
    · have hkl : k = l.length := by omega
      have hyes : spansB most l = decide ((l.length : Int) ≤ 20) := by unfold spansB; rw [E.out, hkl, List.drop_length]; rfl
      have HY := Lib.hid hyes
      clear hyes
      go_wp2_with fail
      go_returns
      rw [HY.out]
      exact ⟨rfl, by (repeat (first | (with_reducible exact LaterOf.refl _) | (with_reducible refine LaterOf.alloc ?_ _) | (with_reducible refine LaterOf.drew ?_) | (with_reducible refine LaterOf.drewN ?_ _) | (with_reducible refine LaterOf.later ?_ _) | (with_reducible refine LaterOf.setCell ?_ (by first | exact Nat.le_refl _ | (simp; done) | omega | (simp; omega)) _)))⟩

set_option maxHeartbeats 1000000 in
theorem refRising_any (A : Option Addr) (c : Nat) (l : List (Int × Int)) (most : Int) (w : World) (hl : IsIvs w A c l) (hn : l.length < 4611686018427387904) :
    Gives Try.prog 78 #[.slice A l.length c, .int .i64 most] w (.bool (spansB most l)) := by
  apply Gives.ret
  have H := Lib.hid hl
  clear hl
  go_enter Try.func78, Try.ntmps78
  go_wp2
  go_loopg [5] l.length (fun n s5 wr => ∃ (k : Nat) (last : Int), k ≤ l.length ∧ l.length - k ≤ n ∧ s5 = .int .i64 k ∧ LaterOf w wr ∧ ascI most (-1) l = ascI most last (l.drop k) ∧ (k = 0 → last = -1) ∧ (0 < k → ∃ s0, l[k - 1]? = some (s0, last)) ∧ -1 ≤ last)
  case atStart => exact ⟨0, -1, by omega, by omega, rfl, by (repeat (first | (with_reducible exact LaterOf.refl _) | (with_reducible refine LaterOf.alloc ?_ _) | (with_reducible refine LaterOf.drew ?_) | (with_reducible refine LaterOf.drewN ?_ _) | (with_reducible refine LaterOf.later ?_ _) | (with_reducible refine LaterOf.setCell ?_ (by first | exact Nat.le_refl _ | (simp; done) | omega | (simp; omega)) _))), by simp, fun _ => rfl, fun h => absurd h (Nat.lt_irrefl _), Int.le_refl _⟩
  case round =>
    obtain ⟨k, last, hk, hg, rfl, ⟨z, rfl⟩, heq, hl0, hl1, hl2⟩ := hrel
    have E := Lib.hid heq
    clear heq
    by_cases hlt : k < l.length
    · obtain ⟨g, off, rfl, hr⟩ := (H.out.later z).at_ (by omega)
      have hO := hr.there
      have c0 := hr.v0 k hlt
      have c1 := hr.v1 k hlt
      obtain ⟨⟨s0, s1⟩, hs⟩ : ∃ q, q = l[k] := ⟨_, rfl⟩
      rw [← hs] at c0 c1
      have HS := Lib.hid hs
      clear hs
      simp only at c0 c1
      have hkc : (0 < k ∧ last ≤ last) ∨ (k = 0 ∧ last = -1) := by
        rcases Nat.eq_zero_or_pos k with h | h
        · exact .inr ⟨h, hl0 h⟩
        · exact .inl ⟨h, by omega⟩
      rcases hkc with ⟨hk0, -⟩ | ⟨hk0, rfl⟩
      · have p1 := hr.v1 (k - 1) (by omega)
        obtain ⟨q, hq⟩ := hl1 hk0
        rw [List.getElem?_eq_getElem (by omega)] at hq
        have hq := Option.some.inj hq
        rw [hq] at p1
        clear hr hl0 hl1 hq
        simp only at p1
        have kp : decide (0 < (k : Int)) = true := by simp; omega
        have key : ((decide (s0 < 0) = true ∨ (decide (s0 < 0) = false ∧ decide (s1 ≤ s0) = true) ∨ (decide (s0 < 0) = false ∧ decide (s1 ≤ s0) = false ∧ decide (most < s1) = true) ∨ (decide (s0 < 0) = false ∧ decide (s1 ≤ s0) = false ∧ decide (most < s1) = false ∧ decide (s0 ≤ last) = true)) ∧ ¬ (last < s0 ∧ s0 < s1 ∧ s1 ≤ most)) ∨
            (decide (s0 < 0) = false ∧ decide (s1 ≤ s0) = false ∧ decide (most < s1) = false ∧ decide (s0 ≤ last) = false ∧ last < s0 ∧ s0 < s1 ∧ s1 ≤ most) := by
          simp only [decide_eq_true_eq, decide_eq_false_iff_not]; omega
        rcases key with ⟨hw, hno⟩ | ⟨b1, b2, b3, b4, g1, g2, g3⟩
        · have hno : spansB most l = false := by unfold spansB; rw [E.out, ascI_fails hlt HS.out hno]; rfl
          have HN := Lib.hid hno
          clear hno
          rcases hw with b1 | ⟨b1, b2⟩ | ⟨b1, b2, b3⟩ | ⟨b1, b2, b3, b4⟩
          all_goals
            go_wp2_with fail
            refine region_later (by kernel_rfl) (by kernel_rfl) ?_
            repeat (go_big_quiet_step (fail))
            refine wpQuiet_nil ?_
            rintro _ ⟨z2, rfl⟩
            go_wp2_with fail
            go_returns
            rw [HN.out]
            exact ⟨rfl, by (repeat (first | (with_reducible exact LaterOf.refl _) | (with_reducible refine LaterOf.alloc ?_ _) | (with_reducible refine LaterOf.drew ?_) | (with_reducible refine LaterOf.drewN ?_ _) | (with_reducible refine LaterOf.later ?_ _) | (with_reducible refine LaterOf.setCell ?_ (by first | exact Nat.le_refl _ | (simp; done) | omega | (simp; omega)) _)))⟩
        · go_wp2_with fail
          refine region_later (by kernel_rfl) (by kernel_rfl) ?_
          repeat (go_big_quiet_step (fail))
          refine wpQuiet_nil ?_
          rintro _ ⟨z2, rfl⟩
          go_wp2_with fail
          go_roundg (l.length - (k + 1))
          case measure => omega
          case rel => exact ⟨k + 1, s1, hlt, Nat.le_refl _, by go_num, by (repeat (first | (with_reducible exact LaterOf.refl _) | (with_reducible refine LaterOf.alloc ?_ _) | (with_reducible refine LaterOf.drew ?_) | (with_reducible refine LaterOf.drewN ?_ _) | (with_reducible refine LaterOf.later ?_ _) | (with_reducible refine LaterOf.setCell ?_ (by first | exact Nat.le_refl _ | (simp; done) | omega | (simp; omega)) _))), by rw [E.out, ascI_step hlt HS.out g1 g2 g3], fun h => absurd h (by omega), fun _ => ⟨s0, by rw [Nat.add_sub_cancel, List.getElem?_eq_getElem hlt, HS.out]⟩, by omega⟩
      · have kp : decide (0 < k) = false := by simp; omega
        clear hr hl0 hl1 hk0
        have key : ((decide (s0 < 0) = true ∨ (decide (s0 < 0) = false ∧ decide (s1 ≤ s0) = true) ∨ (decide (s0 < 0) = false ∧ decide (s1 ≤ s0) = false ∧ decide (most < s1) = true)) ∧ ¬ (-1 < s0 ∧ s0 < s1 ∧ s1 ≤ most)) ∨
            (decide (s0 < 0) = false ∧ decide (s1 ≤ s0) = false ∧ decide (most < s1) = false ∧ -1 < s0 ∧ s0 < s1 ∧ s1 ≤ most) := by
          simp only [decide_eq_true_eq, decide_eq_false_iff_not]; omega
        rcases key with ⟨hw, hno⟩ | ⟨b1, b2, b3, g1, g2, g3⟩
        · have hno : spansB most l = false := by unfold spansB; rw [E.out, ascI_fails hlt HS.out hno]; rfl
          have HN := Lib.hid hno
          clear hno
          rcases hw with b1 | ⟨b1, b2⟩ | ⟨b1, b2, b3⟩
          all_goals
            go_wp2_with fail
            refine region_later (by kernel_rfl) (by kernel_rfl) ?_
            repeat (go_big_quiet_step (fail))
            refine wpQuiet_nil ?_
            rintro _ ⟨z2, rfl⟩
            go_wp2_with fail
            go_returns
            rw [HN.out]
            exact ⟨rfl, by (repeat (first | (with_reducible exact LaterOf.refl _) | (with_reducible refine LaterOf.alloc ?_ _) | (with_reducible refine LaterOf.drew ?_) | (with_reducible refine LaterOf.drewN ?_ _) | (with_reducible refine LaterOf.later ?_ _) | (with_reducible refine LaterOf.setCell ?_ (by first | exact Nat.le_refl _ | (simp; done) | omega | (simp; omega)) _)))⟩
        · go_wp2_with fail
          refine region_later (by kernel_rfl) (by kernel_rfl) ?_
          repeat (go_big_quiet_step (fail))
          refine wpQuiet_nil ?_
          rintro _ ⟨z2, rfl⟩
          go_wp2_with fail
          go_roundg (l.length - (k + 1))
          case measure => omega
          case rel => exact ⟨k + 1, s1, hlt, Nat.le_refl _, by go_num, by (repeat (first | (with_reducible exact LaterOf.refl _) | (with_reducible refine LaterOf.alloc ?_ _) | (with_reducible refine LaterOf.drew ?_) | (with_reducible refine LaterOf.drewN ?_ _) | (with_reducible refine LaterOf.later ?_ _) | (with_reducible refine LaterOf.setCell ?_ (by first | exact Nat.le_refl _ | (simp; done) | omega | (simp; omega)) _))), by rw [E.out, ascI_step hlt HS.out g1 g2 g3], fun h => absurd h (by omega), fun _ => ⟨s0, by rw [Nat.add_sub_cancel, List.getElem?_eq_getElem hlt, HS.out]⟩, by omega⟩
    · have hkl : k = l.length := by omega
      have hyes : spansB most l = decide ((l.length : Int) ≤ 20) := by unfold spansB; rw [E.out, hkl, List.drop_length]; rfl
      have HY := Lib.hid hyes
      clear hyes
      clear hl0 hl1 hl2
      go_wp2_with fail
      go_returns
      rw [HY.out]
      exact ⟨rfl, by (repeat (first | (with_reducible exact LaterOf.refl _) | (with_reducible refine LaterOf.alloc ?_ _) | (with_reducible refine LaterOf.drew ?_) | (with_reducible refine LaterOf.drewN ?_ _) | (with_reducible refine LaterOf.later ?_ _) | (with_reducible refine LaterOf.setCell ?_ (by first | exact Nat.le_refl _ | (simp; done) | omega | (simp; omega)) _)))⟩

abbrev CalV (P : Int) (A : Option Addr) (n c : Nat) (B : Option Addr) (m d : Nat) : Value := .agg #[.int .i64 P, .slice A n c, .slice B m d]
def validB (P : Int) (S D : List (Int × Int)) : Bool := decide (1 ≤ P) && decide (P ≤ 10000) && spansB P S && spansB 1000000 D
theorem valid_any (P : Int) (A B : Option Addr) (c d : Nat) (S D : List (Int × Int)) (w : World) (hS : IsIvs w A c S) (hD : IsIvs w B d D) (hn : S.length < 4611686018427387904) (hm : D.length < 4611686018427387904) :
    Gives Try.prog 67 #[CalV P A S.length c B D.length d] w (.bool (validB P S D)) := by
  apply Gives.ret
  have key : (¬ 1 ≤ P ∧ validB P S D = false) ∨ (1 ≤ P ∧ ¬ P ≤ 10000 ∧ validB P S D = false) ∨ (1 ≤ P ∧ P ≤ 10000 ∧ spansB P S = false ∧ validB P S D = false) ∨ (1 ≤ P ∧ P ≤ 10000 ∧ spansB P S = true ∧ validB P S D = spansB 1000000 D) := by
    unfold validB
    by_cases h1 : 1 ≤ P <;> by_cases h2 : P ≤ 10000 <;> cases spansB P S <;> simp [h1, h2]
  have H := Lib.hid (And.intro hS hD)
  clear hS hD
  rcases key with ⟨h1, e⟩ | ⟨h1, h2, e⟩ | ⟨h1, h2, h3, e⟩ | ⟨h1, h2, h3, e⟩
  · rw [e]; clear e
    go_enter Try.func67, Try.ntmps67
    go_wp2_with fail
    go_returns
    exact ⟨rfl, by (repeat (first | (with_reducible exact LaterOf.refl _) | (with_reducible refine LaterOf.alloc ?_ _) | (with_reducible refine LaterOf.drew ?_) | (with_reducible refine LaterOf.drewN ?_ _) | (with_reducible refine LaterOf.later ?_ _) | (with_reducible refine LaterOf.setCell ?_ (by first | exact Nat.le_refl _ | (simp; done) | omega | (simp; omega)) _)))⟩
  · rw [e]; clear e
    go_enter Try.func67, Try.ntmps67
    go_wp2_with fail
    go_returns
    exact ⟨rfl, by (repeat (first | (with_reducible exact LaterOf.refl _) | (with_reducible refine LaterOf.alloc ?_ _) | (with_reducible refine LaterOf.drew ?_) | (with_reducible refine LaterOf.drewN ?_ _) | (with_reducible refine LaterOf.later ?_ _) | (with_reducible refine LaterOf.setCell ?_ (by first | exact Nat.le_refl _ | (simp; done) | omega | (simp; omega)) _)))⟩
  · rw [e]; clear e
    go_enter Try.func67, Try.ntmps67
    go_wp2_with fail
    refine (ascending_any A c S _ _ (H.out.1.of ((SinceOf.refl w).alloc _)) hn).calls.mono ?_
    rintro e _ ⟨rfl, x1, rfl⟩
    go_wp2_with fail
    go_returns
    exact ⟨rfl, by (repeat (first | (with_reducible exact LaterOf.refl _) | (with_reducible refine LaterOf.alloc ?_ _) | (with_reducible refine LaterOf.drew ?_) | (with_reducible refine LaterOf.drewN ?_ _) | (with_reducible refine LaterOf.later ?_ _) | (with_reducible refine LaterOf.setCell ?_ (by first | exact Nat.le_refl _ | (simp; done) | omega | (simp; omega)) _)))⟩
  · rw [e]; clear e
    go_enter Try.func67, Try.ntmps67
    go_wp2_with fail
    refine (ascending_any A c S _ _ (H.out.1.of ((SinceOf.refl w).alloc _)) hn).calls.mono ?_
    rintro e _ ⟨rfl, x1, rfl⟩
    go_wp2_with fail
    refine (ascending_any B d D _ _ (H.out.2.of (((SinceOf.refl w).alloc _).later x1)) hm).calls.mono ?_
    rintro e _ ⟨rfl, x2, rfl⟩
    go_wp2_with fail
    go_returns
    exact ⟨rfl, by (repeat (first | (with_reducible exact LaterOf.refl _) | (with_reducible refine LaterOf.alloc ?_ _) | (with_reducible refine LaterOf.drew ?_) | (with_reducible refine LaterOf.drewN ?_ _) | (with_reducible refine LaterOf.later ?_ _) | (with_reducible refine LaterOf.setCell ?_ (by first | exact Nat.le_refl _ | (simp; done) | omega | (simp; omega)) _)))⟩
theorem refValid_any (P : Int) (A B : Option Addr) (c d : Nat) (S D : List (Int × Int)) (w : World) (hS : IsIvs w A c S) (hD : IsIvs w B d D) (hn : S.length < 4611686018427387904) (hm : D.length < 4611686018427387904) :
    Gives Try.prog 57 #[CalV P A S.length c B D.length d] w (.bool (validB P S D)) := by
  apply Gives.ret
  have key : (¬ 1 ≤ P ∧ validB P S D = false) ∨ (1 ≤ P ∧ ¬ P ≤ 10000 ∧ validB P S D = false) ∨ (1 ≤ P ∧ P ≤ 10000 ∧ spansB P S = false ∧ validB P S D = false) ∨ (1 ≤ P ∧ P ≤ 10000 ∧ spansB P S = true ∧ validB P S D = spansB 1000000 D) := by
    unfold validB
    by_cases h1 : 1 ≤ P <;> by_cases h2 : P ≤ 10000 <;> cases spansB P S <;> simp [h1, h2]
  have H := Lib.hid (And.intro hS hD)
  clear hS hD
  rcases key with ⟨h1, e⟩ | ⟨h1, h2, e⟩ | ⟨h1, h2, h3, e⟩ | ⟨h1, h2, h3, e⟩
  · rw [e]; clear e
    go_enter Try.func57, Try.ntmps57
    go_wp2_with fail
    go_returns
    exact ⟨rfl, by (repeat (first | (with_reducible exact LaterOf.refl _) | (with_reducible refine LaterOf.alloc ?_ _) | (with_reducible refine LaterOf.drew ?_) | (with_reducible refine LaterOf.drewN ?_ _) | (with_reducible refine LaterOf.later ?_ _) | (with_reducible refine LaterOf.setCell ?_ (by first | exact Nat.le_refl _ | (simp; done) | omega | (simp; omega)) _)))⟩
  · rw [e]; clear e
    go_enter Try.func57, Try.ntmps57
    go_wp2_with fail
    go_returns
    exact ⟨rfl, by (repeat (first | (with_reducible exact LaterOf.refl _) | (with_reducible refine LaterOf.alloc ?_ _) | (with_reducible refine LaterOf.drew ?_) | (with_reducible refine LaterOf.drewN ?_ _) | (with_reducible refine LaterOf.later ?_ _) | (with_reducible refine LaterOf.setCell ?_ (by first | exact Nat.le_refl _ | (simp; done) | omega | (simp; omega)) _)))⟩
  · rw [e]; clear e
    go_enter Try.func57, Try.ntmps57
    go_wp2_with fail
    refine (refRising_any A c S _ _ (H.out.1.of ((SinceOf.refl w).alloc _)) hn).calls.mono ?_
    rintro e _ ⟨rfl, x1, rfl⟩
    go_wp2_with fail
    go_returns
    exact ⟨rfl, by (repeat (first | (with_reducible exact LaterOf.refl _) | (with_reducible refine LaterOf.alloc ?_ _) | (with_reducible refine LaterOf.drew ?_) | (with_reducible refine LaterOf.drewN ?_ _) | (with_reducible refine LaterOf.later ?_ _) | (with_reducible refine LaterOf.setCell ?_ (by first | exact Nat.le_refl _ | (simp; done) | omega | (simp; omega)) _)))⟩
  · rw [e]; clear e
    go_enter Try.func57, Try.ntmps57
    go_wp2_with fail
    refine (refRising_any A c S _ _ (H.out.1.of ((SinceOf.refl w).alloc _)) hn).calls.mono ?_
    rintro e _ ⟨rfl, x1, rfl⟩
    go_wp2_with fail
    refine (refRising_any B d D _ _ (H.out.2.of (((SinceOf.refl w).alloc _).later x1)) hm).calls.mono ?_
    rintro e _ ⟨rfl, x2, rfl⟩
    go_wp2_with fail
    go_returns
    exact ⟨rfl, by (repeat (first | (with_reducible exact LaterOf.refl _) | (with_reducible refine LaterOf.alloc ?_ _) | (with_reducible refine LaterOf.drew ?_) | (with_reducible refine LaterOf.drewN ?_ _) | (with_reducible refine LaterOf.later ?_ _) | (with_reducible refine LaterOf.setCell ?_ (by first | exact Nat.le_refl _ | (simp; done) | omega | (simp; omega)) _)))⟩

def timeB (t : Int) : Bool := decide (0 ≤ t) && decide (t ≤ 1000000)
theorem time_any (t : Int) (w : World) : Calls Try.prog 91 #[.int .i64 t] w fun e w' => e = .returned (.bool (timeB t)) ∧ w = w' := by
  have key : (¬ 0 ≤ t ∧ timeB t = false) ∨ (0 ≤ t ∧ ¬ t ≤ 1000000 ∧ timeB t = false) ∨ (0 ≤ t ∧ t ≤ 1000000 ∧ timeB t = true) := by
    unfold timeB
    by_cases h1 : 0 ≤ t <;> by_cases h2 : t ≤ 1000000 <;> simp [h1, h2]
  rcases key with ⟨h1, e⟩ | ⟨h1, h2, e⟩ | ⟨h1, h2, e⟩ <;> rw [e] <;> clear e <;> go_enter Try.func91, Try.ntmps91 <;> go_wp2 <;> go_returns <;> exact ⟨rfl, rfl⟩

set_option maxHeartbeats 1000000 in
theorem refIn_any (A : Option Addr) (c : Nat) (l : List (Int × Int)) (t : Int) (w : World) (hl : IsIvs w A c l) (hn : l.length < 4611686018427387904) :
    Gives Try.prog 60 #[.slice A l.length c, .int .i64 t] w (.bool (inI l t)) := by
  apply Gives.ret
  have H := Lib.hid hl
  clear hl
  go_enter Try.func60, Try.ntmps60
  go_wp2
  go_loopg [5] l.length (fun n s5 wr => ∃ (k : Nat), k ≤ l.length ∧ l.length - k ≤ n ∧ s5 = .int .i64 k ∧ LaterOf w wr ∧ inI l t = inI (l.drop k) t)
  case atStart => exact ⟨0, by omega, by omega, rfl, by (repeat (first | (with_reducible exact LaterOf.refl _) | (with_reducible refine LaterOf.alloc ?_ _) | (with_reducible refine LaterOf.drew ?_) | (with_reducible refine LaterOf.drewN ?_ _) | (with_reducible refine LaterOf.later ?_ _) | (with_reducible refine LaterOf.setCell ?_ (by first | exact Nat.le_refl _ | (simp; done) | omega | (simp; omega)) _))), by simp⟩
  case round =>
    obtain ⟨k, hk, hg, rfl, ⟨z, rfl⟩, heq⟩ := hrel
    have E := Lib.hid heq
    clear heq
    by_cases hlt : k < l.length
    · obtain ⟨g, off, rfl, hr⟩ := (H.out.later z).at_ (by omega)
      have hO := hr.there
      have c0 := hr.v0 k hlt
      have c1 := hr.v1 k hlt
      clear hr
      obtain ⟨⟨s0, s1⟩, hs⟩ : ∃ q, q = l[k] := ⟨_, rfl⟩
      rw [← hs] at c0 c1
      have hst : inI (l.drop k) t = (decide (s0 ≤ t ∧ t < s1) || inI (l.drop (k + 1)) t) := by rw [List.drop_eq_getElem_cons hlt, ← hs, inI_cons]
      have HS := Lib.hid hst
      clear hs hst
      simp only at c0 c1
      have key : (decide (s0 ≤ t) = true ∧ decide (t < s1) = true ∧ decide (s0 ≤ t ∧ t < s1) = true) ∨ (decide (s0 ≤ t) = false ∧ decide (s0 ≤ t ∧ t < s1) = false) ∨ (decide (s0 ≤ t) = true ∧ decide (t < s1) = false ∧ decide (s0 ≤ t ∧ t < s1) = false) := by
        simp only [decide_eq_true_eq, decide_eq_false_iff_not]; omega
      rcases key with ⟨b1, b2, e⟩ | ⟨b1, e⟩ | ⟨b1, b2, e⟩
      · have hyes : inI l t = true := by rw [E.out, HS.out, e]; rfl
        have HY := Lib.hid hyes
        clear hyes e
        go_wp2_with fail
        go_returns
        rw [HY.out]
        exact ⟨rfl, by (repeat (first | (with_reducible exact LaterOf.refl _) | (with_reducible refine LaterOf.alloc ?_ _) | (with_reducible refine LaterOf.drew ?_) | (with_reducible refine LaterOf.drewN ?_ _) | (with_reducible refine LaterOf.later ?_ _) | (with_reducible refine LaterOf.setCell ?_ (by first | exact Nat.le_refl _ | (simp; done) | omega | (simp; omega)) _)))⟩
      all_goals
        have HE := Lib.hid e
        clear e
        go_wp2_with fail
        go_roundg (l.length - (k + 1))
        case measure => omega
        case rel => exact ⟨k + 1, hlt, Nat.le_refl _, by go_num, by (repeat (first | (with_reducible exact LaterOf.refl _) | (with_reducible refine LaterOf.alloc ?_ _) | (with_reducible refine LaterOf.drew ?_) | (with_reducible refine LaterOf.drewN ?_ _) | (with_reducible refine LaterOf.later ?_ _) | (with_reducible refine LaterOf.setCell ?_ (by first | exact Nat.le_refl _ | (simp; done) | omega | (simp; omega)) _))), by rw [E.out, HS.out, HE.out, Bool.false_or]⟩
    · have hno : inI l t = false := by rw [E.out, show k = l.length from by omega, List.drop_length]; rfl
      have HN := Lib.hid hno
      clear hno
      go_wp2_with fail
      go_returns
      rw [HN.out]
      exact ⟨rfl, by (repeat (first | (with_reducible exact LaterOf.refl _) | (with_reducible refine LaterOf.alloc ?_ _) | (with_reducible refine LaterOf.drew ?_) | (with_reducible refine LaterOf.drewN ?_ _) | (with_reducible refine LaterOf.later ?_ _) | (with_reducible refine LaterOf.setCell ?_ (by first | exact Nat.le_refl _ | (simp; done) | omega | (simp; omega)) _)))⟩
end Go.Proofs.Ytdcncalcncomoaa
