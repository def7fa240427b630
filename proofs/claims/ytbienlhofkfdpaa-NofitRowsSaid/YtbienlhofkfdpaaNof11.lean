/- Layer 16: Few of the reference, small. -/
import Derived.Test.YtbienlhofkfdpaaAwake16
namespace Go.Proofs.Ytbienlhofkfdpaa
open Go.RowKit Go.Sort
set_option linter.unusedVariables false
set_option linter.unusedSimpArgs false
attribute [local go_sem ↓] Go.wp_at_zero Go.wp_at_succ

def Few16 (X : List RgR) : Prop := (∀ x ∈ X, x.xs.length ≤ 20 ∧ ∀ p ∈ x.xs, withinB p.1 p.2 60 = true) ∧ X.length ≤ 12
set_option maxRecDepth 100000 in
set_option maxHeartbeats 8000000 in
theorem refFew16_any (A : Option Addr) (c : Nat) (X : List RgR) (w : World) (h : IsRings w A c X) :
    Calls Try.prog 32 #[.slice A X.length c] w fun e w' => ∃ b, e = .returned (.bool b) ∧ (b = true → Few16 X) ∧ SinceOf w w' := by
  have hl := h.len
  have H := Lib.hid h
  clear h
  go_enter Try.func32, Try.ntmps32
  go_wp2_with fail
  go_loopg [3] X.length (fun gas s3 wr => ∃ i : Nat, s3 = .int .i64 i ∧ i ≤ X.length ∧ X.length - i ≤ gas ∧ (∀ x ∈ X.take i, x.xs.length ≤ 20 ∧ ∀ p ∈ x.xs, withinB p.1 p.2 60 = true) ∧ SinceOf w wr)
  case atStart => exact ⟨0, rfl, Nat.zero_le _, by omega, fun x hx => by simp at hx, by (repeat (first | (with_reducible exact SinceOf.refl _) | (with_reducible assumption) | (with_reducible refine SinceOf.alloc ?_ _) | (with_reducible refine SinceOf.drew ?_) | (with_reducible refine SinceOf.drewN ?_ _) | (with_reducible refine SinceOf.later ?_ _) | (with_reducible refine SinceOf.further ?_ _) | (with_reducible refine SinceOf.setCell ?_ (by first | exact Nat.le_refl _ | (simp; done) | omega | (simp; omega)) _)))⟩
  case round =>
    obtain ⟨i, rfl, hi, hgas, hall, ⟨z, rfl⟩⟩ := hrel
    by_cases hlt : i < X.length
    · obtain ⟨g, off, rfl, hr⟩ := (H.out.of (w' := z.wd) (by (repeat (first | (with_reducible exact SinceOf.refl _) | (with_reducible assumption) | (with_reducible refine SinceOf.alloc ?_ _) | (with_reducible refine SinceOf.drew ?_) | (with_reducible refine SinceOf.drewN ?_ _) | (with_reducible refine SinceOf.later ?_ _) | (with_reducible refine SinceOf.further ?_ _) | (with_reducible refine SinceOf.setCell ?_ (by first | exact Nat.le_refl _ | (simp; done) | omega | (simp; omega)) _))))).row.at_ (by omega)
      have hO := hr.there
      have k0 := hr.g0 i hlt
      have hx := (H.out.of (w' := z.wd) (by (repeat (first | (with_reducible exact SinceOf.refl _) | (with_reducible assumption) | (with_reducible refine SinceOf.alloc ?_ _) | (with_reducible refine SinceOf.drew ?_) | (with_reducible refine SinceOf.drewN ?_ _) | (with_reducible refine SinceOf.later ?_ _) | (with_reducible refine SinceOf.further ?_ _) | (with_reducible refine SinceOf.setCell ?_ (by first | exact Nat.le_refl _ | (simp; done) | omega | (simp; omega)) _))))).all _ (List.getElem_mem hlt)
      have F := few15_any X[i].A X[i].xs.length X[i].c
      obtain ⟨x, hxe⟩ : ∃ x, x = X[i] := ⟨_, rfl⟩
      rw [← hxe] at k0 hx F
      have hxl := hx.len
      have HE := Lib.hid (And.intro hall (And.intro hxe hx))
      clear hr hall hxe hx
      obtain ⟨xA, xc, xs⟩ := x
      simp only at k0 hxl F
      by_cases ff : xs.length ≤ 20
      · rw [decide_eq_true ff] at F
        go_wp2_with fail
        refine (F _).calls.mono ?_
        rintro e _ ⟨rfl, x2, rfl⟩
        clear F
        go_wp2_with fail
        go_loopg [4] xs.length (fun gas s4 wr => ∃ j : Nat, s4 = .int .i64 j ∧ j ≤ xs.length ∧ xs.length - j ≤ gas ∧ (∀ p ∈ xs.take j, withinB p.1 p.2 60 = true) ∧ SinceOf z.wd wr)
        case atStart => exact ⟨0, rfl, Nat.zero_le _, by omega, fun p hp => by simp at hp, by (repeat (first | (with_reducible exact SinceOf.refl _) | (with_reducible assumption) | (with_reducible refine SinceOf.alloc ?_ _) | (with_reducible refine SinceOf.drew ?_) | (with_reducible refine SinceOf.drewN ?_ _) | (with_reducible refine SinceOf.later ?_ _) | (with_reducible refine SinceOf.further ?_ _) | (with_reducible refine SinceOf.setCell ?_ (by first | exact Nat.le_refl _ | (simp; done) | omega | (simp; omega)) _)))⟩
        case round =>
          obtain ⟨j, rfl, hj, hg2, hpp, ⟨z2, rfl⟩⟩ := hrel
          have k1 : z2.wd.cell? ⟨g, off + i, none⟩ = some (.slice xA xs.length xc) := by rw [Since.cell]; exact k0
          by_cases hlt2 : j < xs.length
          · obtain ⟨g2, off2, hA2, hr2⟩ := (HE.out.2.2.of (w' := z2.wd) (by (repeat (first | (with_reducible exact SinceOf.refl _) | (with_reducible assumption) | (with_reducible refine SinceOf.alloc ?_ _) | (with_reducible refine SinceOf.drew ?_) | (with_reducible refine SinceOf.drewN ?_ _) | (with_reducible refine SinceOf.later ?_ _) | (with_reducible refine SinceOf.further ?_ _) | (with_reducible refine SinceOf.setCell ?_ (by first | exact Nat.le_refl _ | (simp; done) | omega | (simp; omega)) _))))).row.at_ (show 0 < xs.length by omega)
            have hO2 := hr2.there
            have a0 := hr2.v0 j hlt2
            have a1 := hr2.v1 j hlt2
            obtain ⟨p, hp⟩ : ∃ p, p = xs[j] := ⟨_, rfl⟩
            simp only at hA2 a0 a1
            subst hA2
            rw [← hp] at a0 a1
            have W6 := refWithin_any p.1 p.2 60
            have HQ := Lib.hid (And.intro hpp hp)
            clear hpp hp hr2
            obtain ⟨px, py⟩ := p
            simp only at a0 a1 W6
            cases hb : withinB px py 60
            · rw [hb] at W6
              clear hb
              clear k0
              go_wp2_with fail
              refine (W6 _).calls.mono ?_
              rintro e _ ⟨rfl, x3, rfl⟩
              go_wp2_with fail
              go_returns
              exact ⟨false, rfl, (fun e => by cases e), by (repeat (first | (with_reducible exact SinceOf.refl _) | (with_reducible assumption) | (with_reducible refine SinceOf.alloc ?_ _) | (with_reducible refine SinceOf.drew ?_) | (with_reducible refine SinceOf.drewN ?_ _) | (with_reducible refine SinceOf.later ?_ _) | (with_reducible refine SinceOf.further ?_ _) | (with_reducible refine SinceOf.setCell ?_ (by first | exact Nat.le_refl _ | (simp; done) | omega | (simp; omega)) _)))⟩
            · rw [hb] at W6
              have HB := Lib.hid hb
              clear hb
              clear k0
              go_wp2_with fail
              refine (W6 _).calls.mono ?_
              rintro e _ ⟨rfl, x3, rfl⟩
              go_wp2_with fail
              go_roundg (xs.length - (j + 1))
              case measure => omega
              case rel => exact ⟨j + 1, by go_num, hlt2, Nat.le_refl _, fun q hq => by
                  rw [List.take_succ_eq_append_getElem hlt2, ← HQ.out.2] at hq
                  rcases List.mem_append.1 hq with e | e
                  · exact HQ.out.1 q e
                  · rw [List.mem_singleton.1 e]; exact HB.out, by (repeat (first | (with_reducible exact SinceOf.refl _) | (with_reducible assumption) | (with_reducible refine SinceOf.alloc ?_ _) | (with_reducible refine SinceOf.drew ?_) | (with_reducible refine SinceOf.drewN ?_ _) | (with_reducible refine SinceOf.later ?_ _) | (with_reducible refine SinceOf.further ?_ _) | (with_reducible refine SinceOf.setCell ?_ (by first | exact Nat.le_refl _ | (simp; done) | omega | (simp; omega)) _)))⟩
          · have hjl : j = xs.length := by omega
            have HQ := Lib.hid (show ∀ p ∈ xs, withinB p.1 p.2 60 = true by rw [hjl, List.take_length] at hpp; exact hpp)
            have g5 : decide ((j : Int) < (xs.length : Int)) = false := decide_eq_false (by omega)
            clear hpp hjl k0
            go_wp2_with fail
            go_roundg (X.length - (i + 1))
            case measure => omega
            case rel => exact ⟨i + 1, by go_num, hlt, Nat.le_refl _, fun q hq => by
                rw [List.take_succ_eq_append_getElem hlt, ← HE.out.2.1] at hq
                rcases List.mem_append.1 hq with e | e
                · exact HE.out.1 q e
                · rw [List.mem_singleton.1 e]; exact ⟨ff, HQ.out⟩, by (repeat (first | (with_reducible exact SinceOf.refl _) | (with_reducible assumption) | (with_reducible refine SinceOf.alloc ?_ _) | (with_reducible refine SinceOf.drew ?_) | (with_reducible refine SinceOf.drewN ?_ _) | (with_reducible refine SinceOf.later ?_ _) | (with_reducible refine SinceOf.further ?_ _) | (with_reducible refine SinceOf.setCell ?_ (by first | exact Nat.le_refl _ | (simp; done) | omega | (simp; omega)) _)))⟩
      · rw [decide_eq_false ff] at F
        go_wp2_with fail
        refine (F _).calls.mono ?_
        rintro e _ ⟨rfl, x2, rfl⟩
        go_wp2_with fail
        go_returns
        exact ⟨false, rfl, (fun e => by cases e), by (repeat (first | (with_reducible exact SinceOf.refl _) | (with_reducible assumption) | (with_reducible refine SinceOf.alloc ?_ _) | (with_reducible refine SinceOf.drew ?_) | (with_reducible refine SinceOf.drewN ?_ _) | (with_reducible refine SinceOf.later ?_ _) | (with_reducible refine SinceOf.further ?_ _) | (with_reducible refine SinceOf.setCell ?_ (by first | exact Nat.le_refl _ | (simp; done) | omega | (simp; omega)) _)))⟩
    · have hil : i = X.length := by omega
      subst hil
      rw [List.take_length] at hall
      have HE := Lib.hid hall
      clear hall
      go_wp2_with fail
      go_returns
      exact ⟨_, rfl, fun e => ⟨HE.out, by have := of_decide_eq_true e; omega⟩, by (repeat (first | (with_reducible exact SinceOf.refl _) | (with_reducible assumption) | (with_reducible refine SinceOf.alloc ?_ _) | (with_reducible refine SinceOf.drew ?_) | (with_reducible refine SinceOf.drewN ?_ _) | (with_reducible refine SinceOf.later ?_ _) | (with_reducible refine SinceOf.further ?_ _) | (with_reducible refine SinceOf.setCell ?_ (by first | exact Nat.le_refl _ | (simp; done) | omega | (simp; omega)) _)))⟩
end Go.Proofs.Ytbienlhofkfdpaa
/- Layer 16: small. -/
namespace Go.Proofs.Ytbienlhofkfdpaa
open Go.RowKit Go.Sort
set_option linter.unusedVariables false
set_option linter.unusedSimpArgs false
attribute [local go_sem ↓] Go.wp_at_zero Go.wp_at_succ

theorem within100 {x y : Int} (h : withinB x y 100 = true) : -100 ≤ x ∧ x ≤ 100 ∧ -100 ≤ y ∧ y ≤ 100 := by
  unfold withinB at h
  rw [show wneg 100 = -100 from by unfold wneg; decide +kernel] at h
  simp only [Bool.and_eq_true, decide_eq_true_eq] at h
  omega
def smallB (lx ly hx hy : Int) : Bool := withinB lx ly 100 && withinB hx hy 100 && decide (hx - lx < 40) && decide (hy - ly < 40)
set_option maxRecDepth 100000 in
set_option maxHeartbeats 8000000 in
theorem small16_any (lx ly hx hy : Int) (w : World) : Gives Try.prog 33 #[.agg #[.int .i64 lx, .int .i64 ly, .int .i64 hx, .int .i64 hy]] w (.bool (smallB lx ly hx hy)) := by
  apply Gives.ret
  have W1 := refWithin_any lx ly 100
  have W2 := refWithin_any hx hy 100
  unfold smallB
  cases h1 : withinB lx ly 100
  · rw [h1] at W1
    clear h1 W2
    go_enter Try.func33, Try.ntmps33
    go_wp2_with fail
    refine (W1 _).calls.mono ?_
    rintro e _ ⟨rfl, x1, rfl⟩
    go_wp2_with fail
    go_returns
    exact ⟨rfl, by (repeat (first | (with_reducible exact LaterOf.refl _) | (with_reducible refine LaterOf.alloc ?_ _) | (with_reducible refine LaterOf.drew ?_) | (with_reducible refine LaterOf.drewN ?_ _) | (with_reducible refine LaterOf.later ?_ _) | (with_reducible refine LaterOf.setCell ?_ (by first | exact Nat.le_refl _ | (simp; done) | omega | (simp; omega)) _)))⟩
  · have b1 := within100 h1
    rw [h1] at W1
    clear h1
    cases h2 : withinB hx hy 100
    · rw [h2] at W2
      clear h2
      go_enter Try.func33, Try.ntmps33
      go_wp2_with fail
      refine (W1 _).calls.mono ?_
      rintro e _ ⟨rfl, x1, rfl⟩
      go_wp2_with fail
      refine (W2 _).calls.mono ?_
      rintro e _ ⟨rfl, x2, rfl⟩
      go_wp2_with fail
      go_returns
      exact ⟨rfl, by (repeat (first | (with_reducible exact LaterOf.refl _) | (with_reducible refine LaterOf.alloc ?_ _) | (with_reducible refine LaterOf.drew ?_) | (with_reducible refine LaterOf.drewN ?_ _) | (with_reducible refine LaterOf.later ?_ _) | (with_reducible refine LaterOf.setCell ?_ (by first | exact Nat.le_refl _ | (simp; done) | omega | (simp; omega)) _)))⟩
    · have b2 := within100 h2
      rw [h2] at W2
      clear h2
      have q1 : IntKind.i64.wrap (hx - lx) = hx - lx := IntWalk.i64_in _ (by omega)
      have q2 : IntKind.i64.wrap (hy - ly) = hy - ly := IntWalk.i64_in _ (by omega)
      cases h3 : decide (hx - lx < 40)
      all_goals
        go_enter Try.func33, Try.ntmps33
        go_wp2_with fail
        refine (W1 _).calls.mono ?_
        rintro e _ ⟨rfl, x1, rfl⟩
        go_wp2_with fail
        refine (W2 _).calls.mono ?_
        rintro e _ ⟨rfl, x2, rfl⟩
        go_wp2_with fail
        go_returns
        exact ⟨by first | rfl | simp, by (repeat (first | (with_reducible exact LaterOf.refl _) | (with_reducible refine LaterOf.alloc ?_ _) | (with_reducible refine LaterOf.drew ?_) | (with_reducible refine LaterOf.drewN ?_ _) | (with_reducible refine LaterOf.later ?_ _) | (with_reducible refine LaterOf.setCell ?_ (by first | exact Nat.le_refl _ | (simp; done) | omega | (simp; omega)) _)))⟩
end Go.Proofs.Ytbienlhofkfdpaa
