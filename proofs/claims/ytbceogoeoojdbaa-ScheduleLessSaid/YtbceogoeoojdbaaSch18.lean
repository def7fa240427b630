/- Layer 52: the law's small. -/
import Derived.Test.YtbceogoeoojdbaaSch17
namespace Go.Proofs.Ytbceogoeoojdbaa
open Go.RowKit Go.Sort
set_option linter.unusedVariables false
attribute [local go_sem ↓] Go.wp_at_zero Go.wp_at_succ

def lateB (j : JobR) : Bool := decide (20000 < j.rel) && decide (j.rel ≤ 1000000)
def smallB (s : ShopR) (L : List JobR) : Bool := !L.any lateB && fewP s L
abbrev probV (s : ShopR) (A : Option Addr) (n c : Nat) : Value := .agg #[.slice s.A s.cals.length s.c, .slice s.B s.rows.length s.d, .int .i64 s.most, .slice A n c]
set_option maxRecDepth 100000 in
set_option maxHeartbeats 4000000 in
theorem small_any (s : ShopR) (A : Option Addr) (c : Nat) (L : List JobR) (w : World) (hs : IsShop w s) (h : IsJobs w A c L) :
    Gives Try.prog 16 #[probV s A L.length c] w (.bool (smallB s L)) := by
  apply Gives.ret
  have FW := fun W hW => few52_any s A c L W (hs.of hW) (h.of hW)
  have hjl := h.len
  have e : smallB s L = (!L.any lateB && fewP s L) := rfl
  obtain ⟨res, hres⟩ : ∃ v, v = smallB s L := ⟨_, rfl⟩
  rw [← hres]
  rw [e] at hres
  generalize fewP s L = q at *
  have H := Lib.hid (And.intro h hres)
  obtain ⟨sA, sc, cals, sB, sd, R, most⟩ := s
  clear hs h hres e
  go_enter Try.func16, Try.ntmps16
  go_wp2_with fail
  go_loopg [8] L.length (fun gas s8 wr => ∃ k : Nat, k ≤ L.length ∧ L.length - k ≤ gas ∧ s8 = .int .i64 k ∧ LaterOf (w.alloc (.cells #[.slice sA cals.length sc, .slice sB R.length sd, .int .i64 most, .slice A L.length c] 28)) wr ∧ L.any lateB = (L.drop k).any lateB)
  case atStart => exact ⟨0, by omega, by omega, rfl, by (repeat (first | (with_reducible exact LaterOf.refl _) | (with_reducible refine LaterOf.alloc ?_ _) | (with_reducible refine LaterOf.drew ?_) | (with_reducible refine LaterOf.drewN ?_ _) | (with_reducible refine LaterOf.later ?_ _) | (with_reducible refine LaterOf.setCell ?_ (by first | exact Nat.le_refl _ | (simp; done) | omega | (simp; omega)) _))), by rw [List.drop_zero]⟩
  case round =>
    obtain ⟨k, hk, hgas, rfl, ⟨z, rfl⟩, hany⟩ := hrel
    by_cases hlt : k < L.length
    · rw [any_drop lateB hlt] at hany
      have hj := H.out.1.of (w' := z.wd) (by (repeat (first | (with_reducible exact SinceOf.refl _) | (with_reducible assumption) | (with_reducible refine SinceOf.alloc ?_ _) | (with_reducible refine SinceOf.drew ?_) | (with_reducible refine SinceOf.drewN ?_ _) | (with_reducible refine SinceOf.later ?_ _) | (with_reducible refine SinceOf.further ?_ _) | (with_reducible refine SinceOf.setCell ?_ (by first | exact Nat.le_refl _ | (simp; done) | omega | (simp; omega)) _))))
      obtain ⟨g, off, rfl, hr⟩ := hj.row.at_ (by omega)
      have hO := hr.there
      have j0 := hr.j0 k hlt
      have j1 := hr.j1 k hlt
      have j2 := hr.j2 k hlt
      have j3 := hr.j3 k hlt
      have j4 := hr.j4 k hlt
      have j5 := hr.j5 k hlt
      have ef : lateB L[k] = (decide (20000 < L[k].rel) && decide (L[k].rel ≤ 1000000)) := rfl
      generalize L[k] = x at *
      rw [ef] at hany
      clear hr hj ef
      have hcase : (decide (20000 < x.rel) = true ∧ decide (x.rel ≤ 1000000) = true) ∨ (decide (20000 < x.rel) = true ∧ decide (x.rel ≤ 1000000) = false) ∨ decide (20000 < x.rel) = false := by
        cases decide (20000 < x.rel) <;> cases decide (x.rel ≤ 1000000) <;> simp
      rcases hcase with ⟨f1, f2⟩ | ⟨f1, f2⟩ | f1
      · rw [f1, f2] at hany
        have HA := Lib.hid hany
        clear hany
        go_wp2_with fail
        go_returns
        exact ⟨by rw [H.out.2, HA.out]; rfl, by (repeat (first | (with_reducible exact LaterOf.refl _) | (with_reducible refine LaterOf.alloc ?_ _) | (with_reducible refine LaterOf.drew ?_) | (with_reducible refine LaterOf.drewN ?_ _) | (with_reducible refine LaterOf.later ?_ _) | (with_reducible refine LaterOf.setCell ?_ (by first | exact Nat.le_refl _ | (simp; done) | omega | (simp; omega)) _)))⟩
      · rw [f1, f2] at hany
        have HA := Lib.hid hany
        clear hany
        go_wp2_with fail
        go_roundg (L.length - (k + 1))
        case measure => omega
        case rel => exact ⟨k + 1, hlt, Nat.le_refl _, by go_num, by (repeat (first | (with_reducible exact LaterOf.refl _) | (with_reducible refine LaterOf.alloc ?_ _) | (with_reducible refine LaterOf.drew ?_) | (with_reducible refine LaterOf.drewN ?_ _) | (with_reducible refine LaterOf.later ?_ _) | (with_reducible refine LaterOf.setCell ?_ (by first | exact Nat.le_refl _ | (simp; done) | omega | (simp; omega)) _))), by rw [HA.out]; simp⟩
      · rw [f1] at hany
        have HA := Lib.hid hany
        clear hany
        go_wp2_with fail
        go_roundg (L.length - (k + 1))
        case measure => omega
        case rel => exact ⟨k + 1, hlt, Nat.le_refl _, by go_num, by (repeat (first | (with_reducible exact LaterOf.refl _) | (with_reducible refine LaterOf.alloc ?_ _) | (with_reducible refine LaterOf.drew ?_) | (with_reducible refine LaterOf.drewN ?_ _) | (with_reducible refine LaterOf.later ?_ _) | (with_reducible refine LaterOf.setCell ?_ (by first | exact Nat.le_refl _ | (simp; done) | omega | (simp; omega)) _))), by rw [HA.out]; simp⟩
    · have hkl : k = L.length := by omega
      rw [hkl, List.drop_length] at hany
      have HA := Lib.hid hany
      clear hany hkl
      go_wp2_with fail
      refine (FW _ (by (repeat (first | (with_reducible exact SinceOf.refl _) | (with_reducible assumption) | (with_reducible refine SinceOf.alloc ?_ _) | (with_reducible refine SinceOf.drew ?_) | (with_reducible refine SinceOf.drewN ?_ _) | (with_reducible refine SinceOf.later ?_ _) | (with_reducible refine SinceOf.further ?_ _) | (with_reducible refine SinceOf.setCell ?_ (by first | exact Nat.le_refl _ | (simp; done) | omega | (simp; omega)) _))))).calls.mono ?_
      rintro e _ ⟨rfl, x1, rfl⟩
      go_wp2_with fail
      go_returns
      exact ⟨by rw [H.out.2, HA.out]; rfl, by (repeat (first | (with_reducible exact LaterOf.refl _) | (with_reducible refine LaterOf.alloc ?_ _) | (with_reducible refine LaterOf.drew ?_) | (with_reducible refine LaterOf.drewN ?_ _) | (with_reducible refine LaterOf.later ?_ _) | (with_reducible refine LaterOf.setCell ?_ (by first | exact Nat.le_refl _ | (simp; done) | omega | (simp; omega)) _)))⟩
end Go.Proofs.Ytbceogoeoojdbaa
