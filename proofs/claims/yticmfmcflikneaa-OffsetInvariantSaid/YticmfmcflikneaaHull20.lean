/- Layer 10: the reference's Width. -/
import Derived.Test.YticmfmcflikneaaHull19
namespace Go.Proofs.Yticmfmcflikneaa
open Go.RowKit Go.Sort
set_option linter.unusedVariables false
attribute [local go_sem ↓] Go.wp_at_zero Go.wp_at_succ

def dotMin (d : Pt) (m : Int) (l : List Pt) : Int := l.foldl (fun m v => min m (dotP v d)) m
def dotMax (d : Pt) (m : Int) (l : List Pt) : Int := l.foldl (fun m v => max m (dotP v d)) m
def widRef (r : List Pt) (d : Pt) : Int × Int := if checkR r d = 0 then (wsub (dotMax d (dotP (at0 r 0) d) r) (dotMin d (dotP (at0 r 0) d) r), 0) else (0, checkR r d)
set_option maxRecDepth 100000 in
set_option maxHeartbeats 8000000 in
theorem refWidth_any (A : Option Addr) (c : Nat) (r : List (Int × Int)) (dx dy : Int) (w : World) (h : IsVecs w A c r) (hlen : r.length < 4611686018427387904) :
    Calls Try.prog 36 #[.slice A r.length c, vv dx dy] w fun e w' => e = .returned (.tuple #[.int .i64 (widRef r (dx, dy)).1, .int .i64 (widRef r (dx, dy)).2]) ∧ SinceOf w w' := by
  have C := fun W (hW : SinceOf w W) => check10_any A c r dx dy W (h.of hW) hlen
  have H := Lib.hid h
  clear h
  have h3 : checkR r (dx, dy) = 0 → 3 ≤ r.length := by
    intro hc
    unfold checkR at hc
    cases hv : convexB r
    · rw [hv] at hc; simp at hc
    · unfold convexB at hv
      simp only [Bool.and_eq_true, decide_eq_true_eq] at hv
      omega
  unfold widRef
  generalize checkR r (dx, dy) = ck at *
  by_cases hc : ck = 0
  · subst hc
    rw [if_pos rfl]
    replace h3 := h3 rfl
    go_enter Try.func36, Try.ntmps36
    go_wp2_with fail
    refine (C _ (by (repeat (first | (with_reducible exact SinceOf.refl _) | (with_reducible assumption) | (with_reducible refine SinceOf.alloc ?_ _) | (with_reducible refine SinceOf.drew ?_) | (with_reducible refine SinceOf.drewN ?_ _) | (with_reducible refine SinceOf.later ?_ _) | (with_reducible refine SinceOf.further ?_ _) | (with_reducible refine SinceOf.setCell ?_ (by first | exact Nat.le_refl _ | (simp; done) | omega | (simp; omega)) _))))).calls.mono ?_
    rintro e _ ⟨rfl, x1, rfl⟩
    clear C
    have v1 : VarV x1.wd w.heap.size (dx, dy) := ((VarV.new w dx dy 32)).of (by (repeat (first | (with_reducible exact SinceOf.refl _) | (with_reducible assumption) | (with_reducible refine SinceOf.alloc ?_ _) | (with_reducible refine SinceOf.drew ?_) | (with_reducible refine SinceOf.drewN ?_ _) | (with_reducible refine SinceOf.later ?_ _) | (with_reducible refine SinceOf.further ?_ _) | (with_reducible refine SinceOf.setCell ?_ (by first | exact Nat.le_refl _ | (simp; done) | omega | (simp; omega)) _))))
    obtain ⟨v, hv1⟩ : SinceOf w x1.wd := by (repeat (first | (with_reducible exact SinceOf.refl _) | (with_reducible assumption) | (with_reducible refine SinceOf.alloc ?_ _) | (with_reducible refine SinceOf.drew ?_) | (with_reducible refine SinceOf.drewN ?_ _) | (with_reducible refine SinceOf.later ?_ _) | (with_reducible refine SinceOf.further ?_ _) | (with_reducible refine SinceOf.setCell ?_ (by first | exact Nat.le_refl _ | (simp; done) | omega | (simp; omega)) _)))
    rw [hv1] at v1 ⊢
    clear hv1
    clear x1
    have hr0 := H.out.of (w' := v.wd) (by (repeat (first | (with_reducible exact SinceOf.refl _) | (with_reducible assumption) | (with_reducible refine SinceOf.alloc ?_ _) | (with_reducible refine SinceOf.drew ?_) | (with_reducible refine SinceOf.drewN ?_ _) | (with_reducible refine SinceOf.later ?_ _) | (with_reducible refine SinceOf.further ?_ _) | (with_reducible refine SinceOf.setCell ?_ (by first | exact Nat.le_refl _ | (simp; done) | omega | (simp; omega)) _))))
    obtain ⟨g, off, rfl, hr⟩ := hr0.at_ (by omega)
    have hO := hr.there
    have a0 := hr.v0 0 (by omega)
    have a1 := hr.v1 0 (by omega)
    simp only [Nat.zero_mul, Nat.add_zero] at a0 a1
    have hb0 : at0 r 0 = r[0] := at0_eq (by omega)
    generalize r[0] = b0 at *
    obtain ⟨bx, by_⟩ := b0
    simp only at a0 a1
    have D0 := refDot_any bx by_ dx dy
    obtain ⟨m0, hm0⟩ : ∃ x, x = dotI bx by_ dx dy := ⟨_, rfl⟩
    rw [← hm0] at D0
    have hvs := v.size
    have hlt1 := v1.lt
    have hcd0 := v1.c0
    have hcd1 := v1.c1
    have hOD : Nonempty (Old v.wd w.heap.size) := ⟨⟨by omega⟩⟩
    have HB := Lib.hid (And.intro hm0 (And.intro v1 hb0))
    clear v1 hr0 hr hb0 hm0
    simp only at hcd0 hcd1
    go_wp2_with fail
    refine region_later (by kernel_rfl) (by kernel_rfl) ?_
    repeat (go_big_quiet_step ((with_reducible refine Gives.later (D0 _))))
    refine wpQuiet_nil ?_
    rintro _ ⟨z1, rfl⟩
    go_wp2_with fail
    go_loopg [7, 8, 9] r.length (fun gas s7 s8 s9 wr => ∃ (i : Nat) (lo hi : Int), i ≤ r.length ∧ r.length - i ≤ gas ∧ s7 = .int .i64 lo ∧ s8 = .int .i64 hi ∧ s9 = .int .i64 i ∧ VarV wr w.heap.size (dx, dy) ∧ SinceOf w wr ∧ dotMin (dx, dy) m0 r = dotMin (dx, dy) lo (r.drop i) ∧ dotMax (dx, dy) m0 r = dotMax (dx, dy) hi (r.drop i))
    case atStart => exact ⟨0, m0, m0, by omega, by omega, rfl, rfl, rfl, HB.out.2.1.of (by (repeat (first | (with_reducible exact SinceOf.refl _) | (with_reducible assumption) | (with_reducible refine SinceOf.alloc ?_ _) | (with_reducible refine SinceOf.drew ?_) | (with_reducible refine SinceOf.drewN ?_ _) | (with_reducible refine SinceOf.later ?_ _) | (with_reducible refine SinceOf.further ?_ _) | (with_reducible refine SinceOf.setCell ?_ (by first | exact Nat.le_refl _ | (simp; done) | omega | (simp; omega)) _)))), by (repeat (first | (with_reducible exact SinceOf.refl _) | (with_reducible assumption) | (with_reducible refine SinceOf.alloc ?_ _) | (with_reducible refine SinceOf.drew ?_) | (with_reducible refine SinceOf.drewN ?_ _) | (with_reducible refine SinceOf.later ?_ _) | (with_reducible refine SinceOf.further ?_ _) | (with_reducible refine SinceOf.setCell ?_ (by first | exact Nat.le_refl _ | (simp; done) | omega | (simp; omega)) _))), rfl, rfl⟩
    case round =>
      obtain ⟨i, lo, hi_, hi, hgas, rfl, rfl, rfl, e1, ⟨u, rfl⟩, hmin, hmax⟩ := hrel
      by_cases hlt : i < r.length
      · rw [List.drop_eq_getElem_cons hlt] at hmin hmax
        have hr0 := H.out.of (w' := u.wd) (by (repeat (first | (with_reducible exact SinceOf.refl _) | (with_reducible assumption) | (with_reducible refine SinceOf.alloc ?_ _) | (with_reducible refine SinceOf.drew ?_) | (with_reducible refine SinceOf.drewN ?_ _) | (with_reducible refine SinceOf.later ?_ _) | (with_reducible refine SinceOf.further ?_ _) | (with_reducible refine SinceOf.setCell ?_ (by first | exact Nat.le_refl _ | (simp; done) | omega | (simp; omega)) _))))
        obtain ⟨g', off', he, hr⟩ := hr0.at_ (by omega)
        injection he with he
        injection he with hg1 ho1
        subst hg1 ho1
        have hO' := hr.there
        have x0 := hr.v0 i hlt
        have x1 := hr.v1 i hlt
        generalize r[i] = x at *
        obtain ⟨xx, xy⟩ := x
        have d0 := e1.c0
        have d1 := e1.c1
        have hg1 := e1.lt
        have hU1 : Nonempty (Old u.wd w.heap.size) := ⟨⟨by omega⟩⟩
        simp only at x0 x1 d0 d1
        have D1 := refDot_any xx xy dx dy
        have hd : dotP (xx, xy) (dx, dy) = dotI xx xy dx dy := rfl
        rw [← hd] at D1
        clear hd
        have HE := Lib.hid (And.intro hmin (And.intro hmax e1))
        clear hmin hmax e1 hr hr0
        obtain ⟨mx, hmx⟩ : ∃ x, x = dotP (xx, xy) (dx, dy) := ⟨_, rfl⟩
        rw [← hmx] at D1
        have HM := Lib.hid hmx
        clear hmx
        go_wp2_with fail
        refine region_later (by kernel_rfl) (by kernel_rfl) ?_
        repeat (go_big_quiet_step ((with_reducible refine Gives.later (D1 _))))
        refine wpQuiet_nil ?_
        rintro _ ⟨z4, rfl⟩
        go_wp2_with fail
        go_roundg (r.length - (i + 1))
        case measure => omega
        case rel => exact ⟨i + 1, min lo mx, max hi_ mx, hlt, Nat.le_refl _, rfl, rfl, by go_num, HE.out.2.2.of (by (repeat (first | (with_reducible exact SinceOf.refl _) | (with_reducible assumption) | (with_reducible refine SinceOf.alloc ?_ _) | (with_reducible refine SinceOf.drew ?_) | (with_reducible refine SinceOf.drewN ?_ _) | (with_reducible refine SinceOf.later ?_ _) | (with_reducible refine SinceOf.further ?_ _) | (with_reducible refine SinceOf.setCell ?_ (by first | exact Nat.le_refl _ | (simp; done) | omega | (simp; omega)) _)))), by (repeat (first | (with_reducible exact SinceOf.refl _) | (with_reducible assumption) | (with_reducible refine SinceOf.alloc ?_ _) | (with_reducible refine SinceOf.drew ?_) | (with_reducible refine SinceOf.drewN ?_ _) | (with_reducible refine SinceOf.later ?_ _) | (with_reducible refine SinceOf.further ?_ _) | (with_reducible refine SinceOf.setCell ?_ (by first | exact Nat.le_refl _ | (simp; done) | omega | (simp; omega)) _))), by rw [HE.out.1, HM.out]; rfl, by rw [HE.out.2.1, HM.out]; rfl⟩
      · have hil : i = r.length := by omega
        subst hil
        rw [List.drop_length] at hmin hmax
        have HA := Lib.hid (And.intro hmin hmax)
        clear hmin hmax e1
        go_wp2_with fail
        go_returns
        refine ⟨?_, by (repeat (first | (with_reducible exact SinceOf.refl _) | (with_reducible assumption) | (with_reducible refine SinceOf.alloc ?_ _) | (with_reducible refine SinceOf.drew ?_) | (with_reducible refine SinceOf.drewN ?_ _) | (with_reducible refine SinceOf.later ?_ _) | (with_reducible refine SinceOf.further ?_ _) | (with_reducible refine SinceOf.setCell ?_ (by first | exact Nat.le_refl _ | (simp; done) | omega | (simp; omega)) _)))⟩
        rw [HB.out.2.2, show dotP (bx, by_) (dx, dy) = m0 from HB.out.1.symm, HA.out.1, HA.out.2]
        rfl
  · rw [if_neg hc]
    have hb : (ck != 0) = true := by simp; exact hc
    have HE := Lib.hid hc
    clear hc
    go_enter Try.func36, Try.ntmps36
    go_wp2_with fail
    refine (C _ (by (repeat (first | (with_reducible exact SinceOf.refl _) | (with_reducible assumption) | (with_reducible refine SinceOf.alloc ?_ _) | (with_reducible refine SinceOf.drew ?_) | (with_reducible refine SinceOf.drewN ?_ _) | (with_reducible refine SinceOf.later ?_ _) | (with_reducible refine SinceOf.further ?_ _) | (with_reducible refine SinceOf.setCell ?_ (by first | exact Nat.le_refl _ | (simp; done) | omega | (simp; omega)) _))))).calls.mono ?_
    rintro e _ ⟨rfl, x1, rfl⟩
    clear C
    go_wp2_with fail
    go_returns
    exact ⟨rfl, by (repeat (first | (with_reducible exact SinceOf.refl _) | (with_reducible assumption) | (with_reducible refine SinceOf.alloc ?_ _) | (with_reducible refine SinceOf.drew ?_) | (with_reducible refine SinceOf.drewN ?_ _) | (with_reducible refine SinceOf.later ?_ _) | (with_reducible refine SinceOf.further ?_ _) | (with_reducible refine SinceOf.setCell ?_ (by first | exact Nat.le_refl _ | (simp; done) | omega | (simp; omega)) _)))⟩
end Go.Proofs.Yticmfmcflikneaa
