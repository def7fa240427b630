/- Layer 52: the law's near. -/
import Derived.Test.YtbceogoeoojdbaaSch15
namespace Go.Proofs.Ytbceogoeoojdbaa
open Go.RowKit Go.Sort
set_option linter.unusedVariables false
attribute [local go_sem ↓] Go.wp_at_zero Go.wp_at_succ

def farB (x : SlotR) : Bool := (decide (20000 < x.start) && decide (x.start ≤ 1000000)) || (decide (20000 < x.stop) && decide (x.stop ≤ 1000000))
def nearL (l : List SlotR) : Bool := !l.any farB && decide ((l.length : Int) ≤ 10)
set_option maxRecDepth 100000 in
set_option maxHeartbeats 4000000 in
theorem near_any (A : Option Addr) (c : Nat) (l : List SlotR) (w : World) (hl : IsSlots w A c l) (hll : l.length < 4611686018427387904) :
    Gives Try.prog 17 #[.slice A l.length c] w (.bool (nearL l)) := by
  apply Gives.ret
  obtain ⟨res, hres⟩ : ∃ v, v = nearL l := ⟨_, rfl⟩
  rw [← hres]
  have H := Lib.hid (And.intro hl hres)
  clear hl hres
  go_enter Try.func17, Try.ntmps17
  go_wp2_with fail
  go_loopg [7] l.length (fun gas s7 wr => ∃ k : Nat, k ≤ l.length ∧ l.length - k ≤ gas ∧ s7 = .int .i64 k ∧ LaterOf w wr ∧ l.any farB = (l.drop k).any farB)
  case atStart => exact ⟨0, by omega, by omega, rfl, by (repeat (first | (with_reducible exact LaterOf.refl _) | (with_reducible refine LaterOf.alloc ?_ _) | (with_reducible refine LaterOf.drew ?_) | (with_reducible refine LaterOf.drewN ?_ _) | (with_reducible refine LaterOf.later ?_ _) | (with_reducible refine LaterOf.setCell ?_ (by first | exact Nat.le_refl _ | (simp; done) | omega | (simp; omega)) _))), by rw [List.drop_zero]⟩
  case round =>
    obtain ⟨k, hk, hgas, rfl, ⟨z, rfl⟩, hany⟩ := hrel
    by_cases hlt : k < l.length
    · rw [any_drop farB hlt] at hany
      have hr0 := H.out.1.of (LaterOf.since ⟨z, rfl⟩)
      obtain ⟨g, off, rfl, hr⟩ := hr0.at_ (by omega)
      have hO := hr.there
      have s0 := hr.s0 k hlt
      have s1 := hr.s1 k hlt
      have s2 := hr.s2 k hlt
      have s3 := hr.s3 k hlt
      obtain ⟨⟨xj, xm, xs, xe⟩, hx⟩ : ∃ x, x = l[k] := ⟨_, rfl⟩
      rw [← hx] at hany s0 s1 s2 s3
      simp only at s0 s1 s2 s3
      have hf : farB ⟨xj, xm, xs, xe⟩ = ((decide (20000 < xs) && decide (xs ≤ 1000000)) || (decide (20000 < xe) && decide (xe ≤ 1000000))) := rfl
      have hcase : ((decide (20000 < xs) = true ∧ decide (xs ≤ 1000000) = true ∧ farB ⟨xj, xm, xs, xe⟩ = true) ∨ (decide (20000 < xs) = true ∧ decide (xs ≤ 1000000) = false ∧ decide (20000 < xe) = true ∧ decide (xe ≤ 1000000) = true ∧ farB ⟨xj, xm, xs, xe⟩ = true) ∨ (decide (20000 < xs) = false ∧ decide (20000 < xe) = true ∧ decide (xe ≤ 1000000) = true ∧ farB ⟨xj, xm, xs, xe⟩ = true)) ∨
          ((decide (20000 < xs) = true ∧ decide (xs ≤ 1000000) = false ∧ decide (20000 < xe) = true ∧ decide (xe ≤ 1000000) = false ∧ farB ⟨xj, xm, xs, xe⟩ = false) ∨ (decide (20000 < xs) = true ∧ decide (xs ≤ 1000000) = false ∧ decide (20000 < xe) = false ∧ farB ⟨xj, xm, xs, xe⟩ = false) ∨ (decide (20000 < xs) = false ∧ decide (20000 < xe) = true ∧ decide (xe ≤ 1000000) = false ∧ farB ⟨xj, xm, xs, xe⟩ = false) ∨ (decide (20000 < xs) = false ∧ decide (20000 < xe) = false ∧ farB ⟨xj, xm, xs, xe⟩ = false)) := by
        rw [hf]
        cases decide (20000 < xs) <;> cases decide (xs ≤ 1000000) <;> cases decide (20000 < xe) <;> cases decide (xe ≤ 1000000) <;> simp
      clear hf hr hr0 hx
      rcases hcase with hcase | hcase
      · have hfar : farB ⟨xj, xm, xs, xe⟩ = true := by rcases hcase with h | h | h <;> simp [h]
        rw [hfar, Bool.true_or] at hany
        have HA := Lib.hid hany
        clear hany hfar
        rcases hcase with ⟨f1, f2, -⟩ | ⟨f1, f2, f3, f4, -⟩ | ⟨f1, f2, f3, -⟩
        all_goals
          go_wp2_with fail
          go_returns
          exact ⟨by rw [H.out.2]; unfold nearL; rw [HA.out]; rfl, by (repeat (first | (with_reducible exact LaterOf.refl _) | (with_reducible refine LaterOf.alloc ?_ _) | (with_reducible refine LaterOf.drew ?_) | (with_reducible refine LaterOf.drewN ?_ _) | (with_reducible refine LaterOf.later ?_ _) | (with_reducible refine LaterOf.setCell ?_ (by first | exact Nat.le_refl _ | (simp; done) | omega | (simp; omega)) _)))⟩
      · have hfar : farB ⟨xj, xm, xs, xe⟩ = false := by rcases hcase with h | h | h | h <;> simp [h]
        rw [hfar, Bool.false_or] at hany
        have HA := Lib.hid hany
        clear hany hfar
        rcases hcase with ⟨f1, f2, f3, f4, -⟩ | ⟨f1, f2, f3, -⟩ | ⟨f1, f2, f3, -⟩ | ⟨f1, f2, -⟩
        all_goals
          go_wp2_with fail
          go_roundg (l.length - (k + 1))
          case measure => omega
          case rel => exact ⟨k + 1, hlt, Nat.le_refl _, by go_num, by (repeat (first | (with_reducible exact LaterOf.refl _) | (with_reducible refine LaterOf.alloc ?_ _) | (with_reducible refine LaterOf.drew ?_) | (with_reducible refine LaterOf.drewN ?_ _) | (with_reducible refine LaterOf.later ?_ _) | (with_reducible refine LaterOf.setCell ?_ (by first | exact Nat.le_refl _ | (simp; done) | omega | (simp; omega)) _))), HA.out⟩
    · have hkl : k = l.length := by omega
      rw [hkl, List.drop_length] at hany
      have HA := Lib.hid hany
      clear hany hkl
      go_wp2_with fail
      go_returns
      exact ⟨by rw [H.out.2]; unfold nearL; rw [HA.out]; simp, by (repeat (first | (with_reducible exact LaterOf.refl _) | (with_reducible refine LaterOf.alloc ?_ _) | (with_reducible refine LaterOf.drew ?_) | (with_reducible refine LaterOf.drewN ?_ _) | (with_reducible refine LaterOf.later ?_ _) | (with_reducible refine LaterOf.setCell ?_ (by first | exact Nat.le_refl _ | (simp; done) | omega | (simp; omega)) _)))⟩
end Go.Proofs.Ytbceogoeoojdbaa
