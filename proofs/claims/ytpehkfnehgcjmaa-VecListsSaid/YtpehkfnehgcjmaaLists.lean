/- The walk of the law VecLists of layer 6. -/
import Derived.Test.YtpehkfnehgcjmaaBoxes
import Derived.Test.YtpehkfnehgcjmaaSame
import Derived.Test.YtpehkfnehgcjmaaRefSorted
import Derived.Test.YtpehkfnehgcjmaaAwake06
namespace Go.Proofs.Ytpehkfnehgcjmaa
open Go.RowKit
set_option linter.unusedVariables false
attribute [local go_sem ↓] Go.wp_at_zero Go.wp_at_succ

theorem sortedV_length_le (l : List (Int × Int)) : (sortedV l).length ≤ l.length := by
  rw [← rsort_sorted]; exact rsortTo_length l _ (Nat.le_refl _)
theorem equalIn_vec_d (w : World) (n : Nat) (a b c d : Int) : (Op.equalIn (n + 2) 23 (vv a b) (vv c d)).run Try.prog w = .ok (a == c && b == d) w := by
  have u3 := Try.underlying3
  have a3 := Try.isAgg3
  have z3 := Try.sizeOf3
  have hS : Try.prog.underlying 23 = some (.struct (Try.prog.fieldsOf 23)) := by kernel_rfl
  have hp : Try.prog.stoodInHeld 23 = false := by kernel_rfl
  rw [run_equalIn_agg w (n + 1) 23 _ _ hS hp]
  simp only [Program.fieldsOf, Try.underlying23]
  go_simp
  by_cases h1 : a = c <;> by_cases h2 : b = d <;> simp [h1, h2]
theorem equalIn_box_self (w : World) (n : Nat) (a b c d : Int) : (Op.equalIn (n + 3) 41 (bb a b c d) (bb a b c d)).run Try.prog w = .ok true w := by
  have a4 := Try.isAgg23
  have z4 := Try.sizeOf23
  have hS : Try.prog.underlying 41 = some (.struct (Try.prog.fieldsOf 41)) := by kernel_rfl
  have hp : Try.prog.stoodInHeld 41 = false := by kernel_rfl
  have hv := fun w a b c d => equalIn_vec_d w n a b c d
  rw [run_equalIn_agg w (n + 2) 41 _ _ hS hp]
  simp only [Program.fieldsOf, Try.underlying41]
  generalize n + 2 = m at *
  go_simp
@[go_sem ↓] theorem eql_box_self (w : World) (a b c d : Int) : (binOp .eql 41 (bb a b c d) (bb a b c d)).run Try.prog w = .ok (.bool true) w := by
  rw [run_eql_struct, show (10000 : Nat) = 9997 + 3 from rfl, equalIn_box_self]; rfl
@[go_sem ↓] theorem eqGuard_box (w : World) (op : BinOp) (x y : Operand) (a b c d e f g h : Int) : (eqGuard op 41 x y (bb a b c d) (bb e f g h)).run Try.prog w = .ok () w :=
  run_eqGuard_agg w op _ x y _ _ (by kernel_rfl)

set_option maxRecDepth 100000 in
set_option maxHeartbeats 8000000 in
theorem vecLists_any (A : Option Addr) (c : Nat) (l : List (Int × Int)) (b0 b1 b2 b3 x y : Int) (w : World) (hl : IsVecs w A c l) : Yields Try.prog 9 #[.slice A l.length c, bb b0 b1 b2 b3, vv x y] w (.bool true) := by
  apply Yields.ret
  have H := Lib.hid hl
  clear hl
  by_cases h40 : l.length ≤ 40
  · have B1 := fun W hW => boxOf_any A c l W (H.out.of hW) (by omega)
    have B2 := fun W hW => refBoxOf_any A c l W (H.out.of hW) (by omega)
    generalize boxOf l = bx at *
    obtain ⟨p0, p1, p2, p3⟩ := bx
    generalize (!l.isEmpty) = ne at *
    simp only at B1 B2
    go_enter Try.func9, Try.ntmps9
    go_wp2_with fail
    refine (awake_any _).calls.mono ?_
    rintro e _ ⟨rfl, x1, rfl⟩
    go_wp2_with fail
    refine (B1 _ (by (repeat (first | (with_reducible exact SinceOf.refl _) | (with_reducible assumption) | (with_reducible refine SinceOf.alloc ?_ _) | (with_reducible refine SinceOf.drew ?_) | (with_reducible refine SinceOf.drewN ?_ _) | (with_reducible refine SinceOf.later ?_ _) | (with_reducible refine SinceOf.further ?_ _) | (with_reducible refine SinceOf.setCell ?_ (by first | exact Nat.le_refl _ | (simp; done) | omega | (simp; omega)) _))))).calls.mono ?_
    rintro e _ ⟨rfl, x2, rfl⟩
    go_wp2_with fail
    refine (B2 _ (by (repeat (first | (with_reducible exact SinceOf.refl _) | (with_reducible assumption) | (with_reducible refine SinceOf.alloc ?_ _) | (with_reducible refine SinceOf.drew ?_) | (with_reducible refine SinceOf.drewN ?_ _) | (with_reducible refine SinceOf.later ?_ _) | (with_reducible refine SinceOf.further ?_ _) | (with_reducible refine SinceOf.setCell ?_ (by first | exact Nat.le_refl _ | (simp; done) | omega | (simp; omega)) _))))).calls.mono ?_
    rintro e _ ⟨rfl, x3, rfl⟩
    go_wp2_with fail
    have q0 : (ne == ne) = true := by simp
    go_region_held3 (fun w' => w'.cell? ⟨w.heap.size, 0, none⟩ = some (.int .i64 b0) ∧ w'.cell? ⟨w.heap.size, 1, none⟩ = some (.int .i64 b1) ∧ w'.cell? ⟨w.heap.size, 2, none⟩ = some (.int .i64 b2) ∧ w'.cell? ⟨w.heap.size, 3, none⟩ = some (.int .i64 b3) ∧
        w'.cell? ⟨w.heap.size + 1, 0, none⟩ = some (.int .i64 x) ∧ w'.cell? ⟨w.heap.size + 1, 1, none⟩ = some (.int .i64 y) ∧
        w'.cell? ⟨x2.wd.heap.size, 0, none⟩ = some (.int .i64 p0) ∧ w'.cell? ⟨x2.wd.heap.size, 1, none⟩ = some (.int .i64 p1) ∧ w'.cell? ⟨x2.wd.heap.size, 2, none⟩ = some (.int .i64 p2) ∧ w'.cell? ⟨x2.wd.heap.size, 3, none⟩ = some (.int .i64 p3) ∧
        w'.cell? ⟨x3.wd.heap.size, 0, none⟩ = some (.int .i64 p0) ∧ w'.cell? ⟨x3.wd.heap.size, 1, none⟩ = some (.int .i64 p1) ∧ w'.cell? ⟨x3.wd.heap.size, 2, none⟩ = some (.int .i64 p2) ∧ w'.cell? ⟨x3.wd.heap.size, 3, none⟩ = some (.int .i64 p3)) ((simp [go_sem, *]))
      (first
        | (go_at_call 38; refine (sorted_any A c l _ (H.out.of (by (repeat (first | (with_reducible exact SinceOf.refl _) | (with_reducible assumption) | (with_reducible refine SinceOf.alloc ?_ _) | (with_reducible refine SinceOf.drew ?_) | (with_reducible refine SinceOf.drewN ?_ _) | (with_reducible refine SinceOf.later ?_ _) | (with_reducible refine SinceOf.further ?_ _) | (with_reducible refine SinceOf.setCell ?_ (by first | exact Nat.le_refl _ | (simp; done) | omega | (simp; omega)) _))))) (by omega)).mono ?_; rintro e _ ⟨A1, c1, rfl, hv1, ⟨y1, rfl⟩⟩)
        | (go_at_call 39; refine (refSorted_any A c l _ (H.out.of (by (repeat (first | (with_reducible exact SinceOf.refl _) | (with_reducible assumption) | (with_reducible refine SinceOf.alloc ?_ _) | (with_reducible refine SinceOf.drew ?_) | (with_reducible refine SinceOf.drewN ?_ _) | (with_reducible refine SinceOf.later ?_ _) | (with_reducible refine SinceOf.further ?_ _) | (with_reducible refine SinceOf.setCell ?_ (by first | exact Nat.le_refl _ | (simp; done) | omega | (simp; omega)) _))))) (by omega)).mono ?_; rintro e _ ⟨A2, c2, rfl, hv2, ⟨y2, rfl⟩⟩)
        | (go_at_call 37; refine (refSame_any A1 A2 c1 c2 _ _ _ (hv1.of (by (repeat (first | (with_reducible exact SinceOf.refl _) | (with_reducible assumption) | (with_reducible refine SinceOf.alloc ?_ _) | (with_reducible refine SinceOf.drew ?_) | (with_reducible refine SinceOf.drewN ?_ _) | (with_reducible refine SinceOf.later ?_ _) | (with_reducible refine SinceOf.further ?_ _) | (with_reducible refine SinceOf.setCell ?_ (by first | exact Nat.le_refl _ | (simp; done) | omega | (simp; omega)) _))))) ((hv2.isRow encV_len).of (by (repeat (first | (with_reducible exact SinceOf.refl _) | (with_reducible assumption) | (with_reducible refine SinceOf.alloc ?_ _) | (with_reducible refine SinceOf.drew ?_) | (with_reducible refine SinceOf.drewN ?_ _) | (with_reducible refine SinceOf.later ?_ _) | (with_reducible refine SinceOf.further ?_ _) | (with_reducible refine SinceOf.setCell ?_ (by first | exact Nat.le_refl _ | (simp; done) | omega | (simp; omega)) _))))) (by have := sortedV_length_le l; omega) (by have := sortedV_length_le l; omega)).calls.mono ?_; rintro e _ ⟨rfl, y3, rfl⟩)
        | (go_at_call 40; refine (inBox_any _ _ _ _ _ _ _).calls.mono ?_; rintro e _ ⟨rfl, y4, rfl⟩)
        | (go_at_call 41; refine (refInBox_any _ _ _ _ _ _ _).calls.mono ?_; rintro e _ ⟨rfl, y5, rfl⟩))
    all_goals (go_wp2_with fail; go_returns; exact ⟨rfl, by (repeat (first | (with_reducible exact SinceOf.refl _) | (with_reducible assumption) | (with_reducible refine SinceOf.alloc ?_ _) | (with_reducible refine SinceOf.drew ?_) | (with_reducible refine SinceOf.drewN ?_ _) | (with_reducible refine SinceOf.later ?_ _) | (with_reducible refine SinceOf.further ?_ _) | (with_reducible refine SinceOf.setCell ?_ (by first | exact Nat.le_refl _ | (simp; done) | omega | (simp; omega)) _)))⟩)
  · have h41 : 40 < l.length := by omega
    clear h40
    go_enter Try.func9, Try.ntmps9
    go_wp2_with fail
    refine (awake_any _).calls.mono ?_
    rintro e _ ⟨rfl, x1, rfl⟩
    go_wp2_with fail
    go_returns
    exact ⟨rfl, by (repeat (first | (with_reducible exact SinceOf.refl _) | (with_reducible assumption) | (with_reducible refine SinceOf.alloc ?_ _) | (with_reducible refine SinceOf.drew ?_) | (with_reducible refine SinceOf.drewN ?_ _) | (with_reducible refine SinceOf.later ?_ _) | (with_reducible refine SinceOf.further ?_ _) | (with_reducible refine SinceOf.setCell ?_ (by first | exact Nat.le_refl _ | (simp; done) | omega | (simp; omega)) _)))⟩
end Go.Proofs.Ytpehkfnehgcjmaa
