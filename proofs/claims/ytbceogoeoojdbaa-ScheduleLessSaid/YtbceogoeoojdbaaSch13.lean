/- Layer 52: asked; the order of the heap. -/
import Derived.Test.YtbceogoeoojdbaaSch12
namespace Go.Proofs.Ytbceogoeoojdbaa
open Go.RowKit Go.Sort
set_option linter.unusedVariables false
attribute [local go_sem ↓] Go.wp_at_zero Go.wp_at_succ

def jobIn (L : List JobR) (j : Int) : Bool := decide (0 ≤ j) && decide (j ≤ (L.length : Int) - 1)
def askedE (L : List JobR) (l : List SlotR) (j : Int) : Int := if jobIn L j = false then 6 else if l.any (fun y => y.job == j) = true then 7 else 0
set_option maxRecDepth 100000 in
set_option maxHeartbeats 1000000 in
theorem asked_any (A : Option Addr) (c : Nat) (L : List JobR) (B : Option Addr) (d : Nat) (l : List SlotR) (j : Int) (w : World) (hjl : L.length < 4611686018427387904) (hl : IsSlots w B d l) (hll : l.length < 4611686018427387904) :
    Gives Try.prog 63 #[.slice A L.length c, .slice B l.length d, .int .i64 j] w (.int .i64 (askedE L l j)) := by
  apply Gives.ret
  have I1 := fun W => in_any j 0 ((L.length : Int) - 1) W
  have AS := fun b W (hW : SinceOf w W) (hb : W.cell? ⟨b, 0, none⟩ = some (.int .i64 j)) (hO : Nonempty (Old W b)) => containsAsked_any (.pointer (some ⟨b, 0, none⟩)) (fun y => y.job == j) B d l W (hl.of hW) hll (fun W' hW' y _ => by
    obtain ⟨z, rfl⟩ := hW'
    exact askedFn_any j y b z.wd (by rw [Since.cell]; exact hb) inferInstance)
  have e : askedE L l j = if jobIn L j = false then 6 else if l.any (fun y => y.job == j) = true then 7 else 0 := rfl
  have ej : jobIn L j = (decide (0 ≤ j) && decide (j ≤ (L.length : Int) - 1)) := rfl
  rw [e, ej]
  generalize (decide (0 ≤ j) && decide (j ≤ (L.length : Int) - 1)) = q1 at *
  generalize l.any (fun y => y.job == j) = q2 at *
  clear hl e ej
  cases q1
  · rw [if_pos rfl]
    go_enter Try.func63, Try.ntmps63
    go_wp2_with fail
    refine (I1 _).mono ?_
    rintro e w' ⟨rfl, rfl⟩
    go_wp2_with fail
    go_returns
    exact ⟨rfl, by (repeat (first | (with_reducible exact LaterOf.refl _) | (with_reducible refine LaterOf.alloc ?_ _) | (with_reducible refine LaterOf.drew ?_) | (with_reducible refine LaterOf.drewN ?_ _) | (with_reducible refine LaterOf.later ?_ _) | (with_reducible refine LaterOf.setCell ?_ (by first | exact Nat.le_refl _ | (simp; done) | omega | (simp; omega)) _)))⟩
  · rw [if_neg (by simp)]
    cases q2
    · rw [if_neg (by simp)]
      go_enter Try.func63, Try.ntmps63
      go_wp2_with fail
      refine (I1 _).mono ?_
      rintro e w' ⟨rfl, rfl⟩
      go_wp2_with fail
      refine (AS _ _ (by (repeat (first | (with_reducible exact SinceOf.refl _) | (with_reducible assumption) | (with_reducible refine SinceOf.alloc ?_ _) | (with_reducible refine SinceOf.drew ?_) | (with_reducible refine SinceOf.drewN ?_ _) | (with_reducible refine SinceOf.later ?_ _) | (with_reducible refine SinceOf.further ?_ _) | (with_reducible refine SinceOf.setCell ?_ (by first | exact Nat.le_refl _ | (simp; done) | omega | (simp; omega)) _)))) (by simp [go_sem]) inferInstance).calls.mono ?_
      rintro e _ ⟨rfl, x1, rfl⟩
      go_wp2_with fail
      go_returns
      exact ⟨rfl, by (repeat (first | (with_reducible exact LaterOf.refl _) | (with_reducible refine LaterOf.alloc ?_ _) | (with_reducible refine LaterOf.drew ?_) | (with_reducible refine LaterOf.drewN ?_ _) | (with_reducible refine LaterOf.later ?_ _) | (with_reducible refine LaterOf.setCell ?_ (by first | exact Nat.le_refl _ | (simp; done) | omega | (simp; omega)) _)))⟩
    · rw [if_pos rfl]
      go_enter Try.func63, Try.ntmps63
      go_wp2_with fail
      refine (I1 _).mono ?_
      rintro e w' ⟨rfl, rfl⟩
      go_wp2_with fail
      refine (AS _ _ (by (repeat (first | (with_reducible exact SinceOf.refl _) | (with_reducible assumption) | (with_reducible refine SinceOf.alloc ?_ _) | (with_reducible refine SinceOf.drew ?_) | (with_reducible refine SinceOf.drewN ?_ _) | (with_reducible refine SinceOf.later ?_ _) | (with_reducible refine SinceOf.further ?_ _) | (with_reducible refine SinceOf.setCell ?_ (by first | exact Nat.le_refl _ | (simp; done) | omega | (simp; omega)) _)))) (by simp [go_sem]) inferInstance).calls.mono ?_
      rintro e _ ⟨rfl, x1, rfl⟩
      go_wp2_with fail
      go_returns
      exact ⟨rfl, by (repeat (first | (with_reducible exact LaterOf.refl _) | (with_reducible refine LaterOf.alloc ?_ _) | (with_reducible refine LaterOf.drew ?_) | (with_reducible refine LaterOf.drewN ?_ _) | (with_reducible refine LaterOf.later ?_ _) | (with_reducible refine LaterOf.setCell ?_ (by first | exact Nat.le_refl _ | (simp; done) | omega | (simp; omega)) _)))⟩
theorem lessInt_any (a b : Int) (w : World) : Gives Try.prog 117 #[.int .i64 a, .int .i64 b] w (.bool (decide (a < b))) := by
  apply Gives.ret
  go_enter Try.func117, Try.ntmps117
  go_wp2_with fail
  go_returns
  exact ⟨rfl, by (repeat (first | (with_reducible exact LaterOf.refl _) | (with_reducible refine LaterOf.alloc ?_ _) | (with_reducible refine LaterOf.drew ?_) | (with_reducible refine LaterOf.drewN ?_ _) | (with_reducible refine LaterOf.later ?_ _) | (with_reducible refine LaterOf.setCell ?_ (by first | exact Nat.le_refl _ | (simp; done) | omega | (simp; omega)) _)))⟩
end Go.Proofs.Ytbceogoeoojdbaa
