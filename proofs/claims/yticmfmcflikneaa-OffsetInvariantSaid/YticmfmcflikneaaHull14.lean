/- Layer 10: Width of the program. -/
import Derived.Test.YticmfmcflikneaaHull13
namespace Go.Proofs.Yticmfmcflikneaa
open Go.RowKit Go.Sort
set_option linter.unusedVariables false
attribute [local go_sem ↓] Go.wp_at_zero Go.wp_at_succ

def dotP (v d : Pt) : Int := dotI v.1 v.2 d.1 d.2
def widRes (r : List Pt) (d : Pt) : Int × Int := if (farRes r d).2 = 0 then (wsub (dotP (farRes r d).1 d) (r.foldl (fun m v => min m (dotP v d)) (dotP (farRes r d).1 d)), 0) else (0, (farRes r d).2)
set_option maxRecDepth 100000 in
set_option maxHeartbeats 8000000 in
theorem width_any (A : Option Addr) (c : Nat) (r : List (Int × Int)) (dx dy : Int) (w : World) (h : IsVecs w A c r) (hlen : r.length < 4611686018427387904) :
    Calls Try.prog 28 #[.slice A r.length c, vv dx dy] w fun e w' => e = .returned (.tuple #[.int .i64 (widRes r (dx, dy)).1, .int .i64 (widRes r (dx, dy)).2]) ∧ SinceOf w w' := by
  have C := fun W (hW : SinceOf w W) => farthest_any A c r dx dy W (h.of hW) hlen
  have H := Lib.hid h
  clear h
  have hw : widRes r (dx, dy) = if (farRes r (dx, dy)).2 = 0 then (wsub (dotP (farRes r (dx, dy)).1 (dx, dy)) (r.foldl (fun m v => min m (dotP v (dx, dy))) (dotP (farRes r (dx, dy)).1 (dx, dy))), 0) else (0, (farRes r (dx, dy)).2) := rfl
  rw [hw]
  clear hw
  generalize farRes r (dx, dy) = fr at *
  obtain ⟨⟨px, py⟩, e⟩ := fr
  simp only at C ⊢
  by_cases he : e = 0
  · subst he
    rw [if_pos rfl]
    go_enter Try.func28, Try.ntmps28
    go_wp2_with fail
    refine (C _ (by (repeat (first | (with_reducible exact SinceOf.refl _) | (with_reducible assumption) | (with_reducible refine SinceOf.alloc ?_ _) | (with_reducible refine SinceOf.drew ?_) | (with_reducible refine SinceOf.drewN ?_ _) | (with_reducible refine SinceOf.later ?_ _) | (with_reducible refine SinceOf.further ?_ _) | (with_reducible refine SinceOf.setCell ?_ (by first | exact Nat.le_refl _ | (simp; done) | omega | (simp; omega)) _))))).mono ?_
    rintro e _ ⟨rfl, ⟨x0, rfl⟩⟩
    clear C
    have v1 : VarV x0.wd w.heap.size (dx, dy) := ((VarV.new w dx dy 32)).of (by (repeat (first | (with_reducible exact SinceOf.refl _) | (with_reducible assumption) | (with_reducible refine SinceOf.alloc ?_ _) | (with_reducible refine SinceOf.drew ?_) | (with_reducible refine SinceOf.drewN ?_ _) | (with_reducible refine SinceOf.later ?_ _) | (with_reducible refine SinceOf.further ?_ _) | (with_reducible refine SinceOf.setCell ?_ (by first | exact Nat.le_refl _ | (simp; done) | omega | (simp; omega)) _))))
    have hs : SinceOf w x0.wd := by (repeat (first | (with_reducible exact SinceOf.refl _) | (with_reducible assumption) | (with_reducible refine SinceOf.alloc ?_ _) | (with_reducible refine SinceOf.drew ?_) | (with_reducible refine SinceOf.drewN ?_ _) | (with_reducible refine SinceOf.later ?_ _) | (with_reducible refine SinceOf.further ?_ _) | (with_reducible refine SinceOf.setCell ?_ (by first | exact Nat.le_refl _ | (simp; done) | omega | (simp; omega)) _)))
    obtain ⟨v, hv1⟩ := hs
    rw [hv1] at v1 ⊢
    clear hv1
    clear x0
    have d0 := v1.c0
    have d1 := v1.c1
    have hlt1 := v1.lt
    have hOD : Nonempty (Old v.wd w.heap.size) := ⟨⟨by omega⟩⟩
    simp only at d0 d1
    have hdp : dotP (px, py) (dx, dy) = dotI px py dx dy := rfl
    have DP := dot_any px py dx dy
    rw [← hdp] at DP
    clear hdp
    obtain ⟨mp, hmp⟩ : ∃ x, x = dotP (px, py) (dx, dy) := ⟨_, rfl⟩
    rw [← hmp] at DP
    have HM := Lib.hid hmp
    clear hmp
    have HV := Lib.hid v1
    clear v1
    go_wp2_with fail
    refine (DP _).calls.mono ?_
    rintro e _ ⟨rfl, x1, rfl⟩
    have g1 : VarV x1.wd w.heap.size (dx, dy) := HV.out.of (by (repeat (first | (with_reducible exact SinceOf.refl _) | (with_reducible assumption) | (with_reducible refine SinceOf.alloc ?_ _) | (with_reducible refine SinceOf.drew ?_) | (with_reducible refine SinceOf.drewN ?_ _) | (with_reducible refine SinceOf.later ?_ _) | (with_reducible refine SinceOf.further ?_ _) | (with_reducible refine SinceOf.setCell ?_ (by first | exact Nat.le_refl _ | (simp; done) | omega | (simp; omega)) _))))
    have g2 : VarV x1.wd v.wd.heap.size (px, py) := (VarV.new v.wd px py 32).of (by (repeat (first | (with_reducible exact SinceOf.refl _) | (with_reducible assumption) | (with_reducible refine SinceOf.alloc ?_ _) | (with_reducible refine SinceOf.drew ?_) | (with_reducible refine SinceOf.drewN ?_ _) | (with_reducible refine SinceOf.later ?_ _) | (with_reducible refine SinceOf.further ?_ _) | (with_reducible refine SinceOf.setCell ?_ (by first | exact Nat.le_refl _ | (simp; done) | omega | (simp; omega)) _))))
    have hvs := v.size
    generalize v.wd.heap.size = gp at *
    obtain ⟨v1, hv1⟩ : SinceOf w x1.wd := by (repeat (first | (with_reducible exact SinceOf.refl _) | (with_reducible assumption) | (with_reducible refine SinceOf.alloc ?_ _) | (with_reducible refine SinceOf.drew ?_) | (with_reducible refine SinceOf.drewN ?_ _) | (with_reducible refine SinceOf.later ?_ _) | (with_reducible refine SinceOf.further ?_ _) | (with_reducible refine SinceOf.setCell ?_ (by first | exact Nat.le_refl _ | (simp; done) | omega | (simp; omega)) _)))
    rw [hv1] at g1 g2 ⊢
    clear hv1 d0 d1 hOD
    clear x1
    have HG := Lib.hid (And.intro g1 g2)
    clear g1 g2
    go_wp2_with fail
    go_loopg [8, 25] r.length (fun gas s8 s25 wr => ∃ (i : Nat) (m : Int), i ≤ r.length ∧ r.length - i ≤ gas ∧ s8 = .int .i64 m ∧ s25 = .int .i64 i ∧ VarV wr w.heap.size (dx, dy) ∧ VarV wr gp (px, py) ∧ SinceOf w wr ∧ r.foldl (fun m v => min m (dotP v (dx, dy))) mp = (r.drop i).foldl (fun m v => min m (dotP v (dx, dy))) m)
    case atStart => exact ⟨0, mp, by omega, by omega, rfl, rfl, HG.out.1, HG.out.2, by (repeat (first | (with_reducible exact SinceOf.refl _) | (with_reducible assumption) | (with_reducible refine SinceOf.alloc ?_ _) | (with_reducible refine SinceOf.drew ?_) | (with_reducible refine SinceOf.drewN ?_ _) | (with_reducible refine SinceOf.later ?_ _) | (with_reducible refine SinceOf.further ?_ _) | (with_reducible refine SinceOf.setCell ?_ (by first | exact Nat.le_refl _ | (simp; done) | omega | (simp; omega)) _))), rfl⟩
    case round =>
      obtain ⟨i, m, hi, hgas, rfl, rfl, e1, e2, ⟨u, rfl⟩, hall⟩ := hrel
      have d0 := e1.c0
      have d1 := e1.c1
      have q0 := e2.c0
      have q1 := e2.c1
      have hg1 := e1.lt
      have hg3 := e2.lt
      have hU1 : Nonempty (Old u.wd w.heap.size) := ⟨⟨by omega⟩⟩
      have hU3 : Nonempty (Old u.wd gp) := ⟨⟨by omega⟩⟩
      simp only at d0 d1 q0 q1
      by_cases hlt : i < r.length
      · rw [List.drop_eq_getElem_cons hlt, List.foldl_cons] at hall
        have hr0 := H.out.of (w' := u.wd) (by (repeat (first | (with_reducible exact SinceOf.refl _) | (with_reducible assumption) | (with_reducible refine SinceOf.alloc ?_ _) | (with_reducible refine SinceOf.drew ?_) | (with_reducible refine SinceOf.drewN ?_ _) | (with_reducible refine SinceOf.later ?_ _) | (with_reducible refine SinceOf.further ?_ _) | (with_reducible refine SinceOf.setCell ?_ (by first | exact Nat.le_refl _ | (simp; done) | omega | (simp; omega)) _))))
        obtain ⟨g, off, rfl, hr⟩ := hr0.at_ (by omega)
        have hO := hr.there
        have x0 := hr.v0 i hlt
        have x1 := hr.v1 i hlt
        generalize r[i] = x at *
        obtain ⟨xx, xy⟩ := x
        simp only at x0 x1
        have D1 := dot_any xx xy dx dy
        have hd : dotP (xx, xy) (dx, dy) = dotI xx xy dx dy := rfl
        rw [← hd] at D1
        clear hd
        generalize dotP (xx, xy) (dx, dy) = mx at *
        have HE := Lib.hid (And.intro hall (And.intro e1 e2))
        clear hall e1 e2 hr hr0
        go_wp2_with fail
        refine (D1 _).calls.mono ?_
        rintro e _ ⟨rfl, x1, rfl⟩
        go_wp2_with fail
        go_roundg (r.length - (i + 1))
        case measure => omega
        case rel => exact ⟨i + 1, min m mx, hlt, Nat.le_refl _, rfl, by go_num, HE.out.2.1.of (by (repeat (first | (with_reducible exact SinceOf.refl _) | (with_reducible assumption) | (with_reducible refine SinceOf.alloc ?_ _) | (with_reducible refine SinceOf.drew ?_) | (with_reducible refine SinceOf.drewN ?_ _) | (with_reducible refine SinceOf.later ?_ _) | (with_reducible refine SinceOf.further ?_ _) | (with_reducible refine SinceOf.setCell ?_ (by first | exact Nat.le_refl _ | (simp; done) | omega | (simp; omega)) _)))), HE.out.2.2.of (by (repeat (first | (with_reducible exact SinceOf.refl _) | (with_reducible assumption) | (with_reducible refine SinceOf.alloc ?_ _) | (with_reducible refine SinceOf.drew ?_) | (with_reducible refine SinceOf.drewN ?_ _) | (with_reducible refine SinceOf.later ?_ _) | (with_reducible refine SinceOf.further ?_ _) | (with_reducible refine SinceOf.setCell ?_ (by first | exact Nat.le_refl _ | (simp; done) | omega | (simp; omega)) _)))), by (repeat (first | (with_reducible exact SinceOf.refl _) | (with_reducible assumption) | (with_reducible refine SinceOf.alloc ?_ _) | (with_reducible refine SinceOf.drew ?_) | (with_reducible refine SinceOf.drewN ?_ _) | (with_reducible refine SinceOf.later ?_ _) | (with_reducible refine SinceOf.further ?_ _) | (with_reducible refine SinceOf.setCell ?_ (by first | exact Nat.le_refl _ | (simp; done) | omega | (simp; omega)) _))), HE.out.1⟩
      · have hil : i = r.length := by omega
        subst hil
        rw [List.drop_length] at hall
        have HA := Lib.hid hall
        clear hall e1 e2
        go_wp2_with fail
        refine (DP _).calls.mono ?_
        rintro e _ ⟨rfl, x1, rfl⟩
        go_wp2_with fail
        go_returns
        exact ⟨by rw [← HM.out, HA.out]; rfl, by (repeat (first | (with_reducible exact SinceOf.refl _) | (with_reducible assumption) | (with_reducible refine SinceOf.alloc ?_ _) | (with_reducible refine SinceOf.drew ?_) | (with_reducible refine SinceOf.drewN ?_ _) | (with_reducible refine SinceOf.later ?_ _) | (with_reducible refine SinceOf.further ?_ _) | (with_reducible refine SinceOf.setCell ?_ (by first | exact Nat.le_refl _ | (simp; done) | omega | (simp; omega)) _)))⟩
  · rw [if_neg he]
    have hb : (e != 0) = true := by simp; exact he
    have HE := Lib.hid he
    clear he
    go_enter Try.func28, Try.ntmps28
    go_wp2_with fail
    refine (C _ (by (repeat (first | (with_reducible exact SinceOf.refl _) | (with_reducible assumption) | (with_reducible refine SinceOf.alloc ?_ _) | (with_reducible refine SinceOf.drew ?_) | (with_reducible refine SinceOf.drewN ?_ _) | (with_reducible refine SinceOf.later ?_ _) | (with_reducible refine SinceOf.further ?_ _) | (with_reducible refine SinceOf.setCell ?_ (by first | exact Nat.le_refl _ | (simp; done) | omega | (simp; omega)) _))))).mono ?_
    rintro e _ ⟨rfl, ⟨x0, rfl⟩⟩
    clear C
    go_wp2_with fail
    go_returns
    exact ⟨rfl, by (repeat (first | (with_reducible exact SinceOf.refl _) | (with_reducible assumption) | (with_reducible refine SinceOf.alloc ?_ _) | (with_reducible refine SinceOf.drew ?_) | (with_reducible refine SinceOf.drewN ?_ _) | (with_reducible refine SinceOf.later ?_ _) | (with_reducible refine SinceOf.further ?_ _) | (with_reducible refine SinceOf.setCell ?_ (by first | exact Nat.le_refl _ | (simp; done) | omega | (simp; omega)) _)))⟩
end Go.Proofs.Yticmfmcflikneaa
