/- Layer 10: the reference's Farthest. -/
import Derived.Test.YticmfmcflikneaaHull18
import Derived.Test.YticmfmcflikneaaHull16
namespace Go.Proofs.Yticmfmcflikneaa
open Go.RowKit Go.Sort
set_option linter.unusedVariables false
attribute [local go_sem ↓] Go.wp_at_zero Go.wp_at_succ

theorem farS_eq (d b v : Pt) : farS d b v = if dotP b d < dotP v d ∨ (dotP v d = dotP b d ∧ lessB v.1 v.2 b.1 b.2 = true) then v else b := by
  have h1 := vcmp_lexy v b
  have h2 := lessB_lexy v b
  unfold farS
  rw [show dotI v.1 v.2 d.1 d.2 = dotP v d from rfl, show dotI b.1 b.2 d.1 d.2 = dotP b d from rfl]
  have c1 : 0 < cmpi (dotP v d) (dotP b d) ↔ dotP b d < dotP v d := by
    rcases cmpi_cases (dotP v d) (dotP b d) with ⟨h, e⟩ | ⟨h, h', e⟩ | ⟨h, h', e⟩ <;> rw [e] <;> constructor <;> intro q <;> omega
  have c2 : cmpi (dotP v d) (dotP b d) = 0 ↔ dotP v d = dotP b d := by
    rcases cmpi_cases (dotP v d) (dotP b d) with ⟨h, e⟩ | ⟨h, h', e⟩ | ⟨h, h', e⟩ <;> rw [e] <;> constructor <;> intro q <;> omega
  have k := or_congr c1 (and_congr c2 (h1.trans h2.symm))
  by_cases q : dotP b d < dotP v d ∨ (dotP v d = dotP b d ∧ lessB v.1 v.2 b.1 b.2 = true)
  · rw [if_pos q, if_pos (k.2 q)]
  · rw [if_neg q, if_neg (fun r => q (k.1 r))]
theorem farRes_check (r : List Pt) (d : Pt) : farRes r d = if checkR r d = 0 then (farthest r d, 0) else ((0, 0), checkR r d) := by
  unfold farRes checkR
  cases convexB r <;> cases farB d <;> simp
set_option maxRecDepth 100000 in
set_option maxHeartbeats 8000000 in
theorem refFarthest_any (A : Option Addr) (c : Nat) (r : List (Int × Int)) (dx dy : Int) (w : World) (h : IsVecs w A c r) (hlen : r.length < 4611686018427387904) :
    Calls Try.prog 35 #[.slice A r.length c, vv dx dy] w fun e w' => e = .returned (.tuple #[vv (farRes r (dx, dy)).1.1 (farRes r (dx, dy)).1.2, .int .i64 (farRes r (dx, dy)).2]) ∧ SinceOf w w' := by
  have C := fun W (hW : SinceOf w W) => check10_any A c r dx dy W (h.of hW) hlen
  have H := Lib.hid h
  clear h
  have h3 : checkR r (dx, dy) = 0 → 3 ≤ r.length := by
    intro hc
    unfold checkR at hc
    cases hv : convexB r
    · rw [hv] at hc; simp at hc
    · unfold convexB at hv
      simp only [Bool.and_eq_true, decide_eq_true_eq] at hv
      omega
  have hfr := farRes_check r (dx, dy)
  rw [hfr]
  clear hfr
  generalize checkR r (dx, dy) = ck at *
  by_cases hc : ck = 0
  · subst hc
    rw [if_pos rfl]
    replace h3 := h3 rfl
    go_enter Try.func35, Try.ntmps35
    go_wp2_with fail
    refine (C _ (by (repeat (first | (with_reducible exact SinceOf.refl _) | (with_reducible assumption) | (with_reducible refine SinceOf.alloc ?_ _) | (with_reducible refine SinceOf.drew ?_) | (with_reducible refine SinceOf.drewN ?_ _) | (with_reducible refine SinceOf.later ?_ _) | (with_reducible refine SinceOf.further ?_ _) | (with_reducible refine SinceOf.setCell ?_ (by first | exact Nat.le_refl _ | (simp; done) | omega | (simp; omega)) _))))).calls.mono ?_
    rintro e _ ⟨rfl, x1, rfl⟩
    clear C
    have v1 : VarV x1.wd w.heap.size (dx, dy) := ((VarV.new w dx dy 32)).of (by (repeat (first | (with_reducible exact SinceOf.refl _) | (with_reducible assumption) | (with_reducible refine SinceOf.alloc ?_ _) | (with_reducible refine SinceOf.drew ?_) | (with_reducible refine SinceOf.drewN ?_ _) | (with_reducible refine SinceOf.later ?_ _) | (with_reducible refine SinceOf.further ?_ _) | (with_reducible refine SinceOf.setCell ?_ (by first | exact Nat.le_refl _ | (simp; done) | omega | (simp; omega)) _))))
    have v2 : VarV x1.wd (w.heap.size + 1) (0, 0) := by
      have q := VarV.new (w.alloc (.cells #[.int .i64 dx, .int .i64 dy] 32)) 0 0 32
      simp only [World.size_alloc] at q
      exact q.of (by (repeat (first | (with_reducible exact SinceOf.refl _) | (with_reducible assumption) | (with_reducible refine SinceOf.alloc ?_ _) | (with_reducible refine SinceOf.drew ?_) | (with_reducible refine SinceOf.drewN ?_ _) | (with_reducible refine SinceOf.later ?_ _) | (with_reducible refine SinceOf.further ?_ _) | (with_reducible refine SinceOf.setCell ?_ (by first | exact Nat.le_refl _ | (simp; done) | omega | (simp; omega)) _))))
    have hs : SinceOf w x1.wd := by (repeat (first | (with_reducible exact SinceOf.refl _) | (with_reducible assumption) | (with_reducible refine SinceOf.alloc ?_ _) | (with_reducible refine SinceOf.drew ?_) | (with_reducible refine SinceOf.drewN ?_ _) | (with_reducible refine SinceOf.later ?_ _) | (with_reducible refine SinceOf.further ?_ _) | (with_reducible refine SinceOf.setCell ?_ (by first | exact Nat.le_refl _ | (simp; done) | omega | (simp; omega)) _)))
    obtain ⟨v, hv1⟩ := hs
    rw [hv1] at v1 v2 ⊢
    clear hv1
    clear x1
    have hr0 := H.out.of (w' := v.wd) (by (repeat (first | (with_reducible exact SinceOf.refl _) | (with_reducible assumption) | (with_reducible refine SinceOf.alloc ?_ _) | (with_reducible refine SinceOf.drew ?_) | (with_reducible refine SinceOf.drewN ?_ _) | (with_reducible refine SinceOf.later ?_ _) | (with_reducible refine SinceOf.further ?_ _) | (with_reducible refine SinceOf.setCell ?_ (by first | exact Nat.le_refl _ | (simp; done) | omega | (simp; omega)) _))))
    obtain ⟨g, off, rfl, hr⟩ := hr0.at_ (by omega)
    have hO := hr.there
    have a0 := hr.v0 0 (by omega)
    have a1 := hr.v1 0 (by omega)
    simp only [Nat.zero_mul, Nat.add_zero] at a0 a1
    have hbest : farthest r (dx, dy) = r.foldl (farS (dx, dy)) r[0] := by unfold farthest; rw [at0_eq (by omega)]
    generalize r[0] = b0 at *
    obtain ⟨bx, by_⟩ := b0
    simp only at a0 a1
    have hvs := v.size
    have hlt1 := v2.lt
    have HB := Lib.hid (And.intro hbest (And.intro v1 (And.intro v2 hr0)))
    have hcd0 := v1.c0
    have hcd1 := v1.c1
    have hOD : Nonempty (Old v.wd w.heap.size) := ⟨⟨by omega⟩⟩
    have hOR : Nonempty (Old v.wd (w.heap.size + 1)) := ⟨⟨by omega⟩⟩
    clear hbest v1 v2 hr0 hr
    simp only at hcd0 hcd1
    go_wp2_with fail
    generalize hgb : v.wd.heap.size = gb at *
    go_loopg [8] r.length (fun gas s23 wr => ∃ (i : Nat) (b : Pt), i ≤ r.length ∧ r.length - i ≤ gas ∧ s23 = .int .i64 i ∧ VarV wr w.heap.size (dx, dy) ∧ VarV wr (w.heap.size + 1) (0, 0) ∧ VarV wr gb b ∧ SinceOf w wr ∧ farthest r (dx, dy) = (r.drop i).foldl (farS (dx, dy)) b)
    case atStart =>
      refine ⟨0, (bx, by_), by omega, by omega, rfl, HB.out.2.1.of (by (repeat (first | (with_reducible exact SinceOf.refl _) | (with_reducible assumption) | (with_reducible refine SinceOf.alloc ?_ _) | (with_reducible refine SinceOf.drew ?_) | (with_reducible refine SinceOf.drewN ?_ _) | (with_reducible refine SinceOf.later ?_ _) | (with_reducible refine SinceOf.further ?_ _) | (with_reducible refine SinceOf.setCell ?_ (by first | exact Nat.le_refl _ | (simp; done) | omega | (simp; omega)) _)))), HB.out.2.2.1.of (by (repeat (first | (with_reducible exact SinceOf.refl _) | (with_reducible assumption) | (with_reducible refine SinceOf.alloc ?_ _) | (with_reducible refine SinceOf.drew ?_) | (with_reducible refine SinceOf.drewN ?_ _) | (with_reducible refine SinceOf.later ?_ _) | (with_reducible refine SinceOf.further ?_ _) | (with_reducible refine SinceOf.setCell ?_ (by first | exact Nat.le_refl _ | (simp; done) | omega | (simp; omega)) _)))), ?_, by (repeat (first | (with_reducible exact SinceOf.refl _) | (with_reducible assumption) | (with_reducible refine SinceOf.alloc ?_ _) | (with_reducible refine SinceOf.drew ?_) | (with_reducible refine SinceOf.drewN ?_ _) | (with_reducible refine SinceOf.later ?_ _) | (with_reducible refine SinceOf.further ?_ _) | (with_reducible refine SinceOf.setCell ?_ (by first | exact Nat.le_refl _ | (simp; done) | omega | (simp; omega)) _))), HB.out.1⟩
      rw [← hgb]
      exact VarV.new _ _ _ _
    case round =>
      obtain ⟨i, b, hi, hgas, rfl, e1, e2, e3, ⟨u, rfl⟩, hall⟩ := hrel
      by_cases hlt : i < r.length
      · rw [List.drop_eq_getElem_cons hlt, List.foldl_cons] at hall
        have hr0 := H.out.of (w' := u.wd) (by (repeat (first | (with_reducible exact SinceOf.refl _) | (with_reducible assumption) | (with_reducible refine SinceOf.alloc ?_ _) | (with_reducible refine SinceOf.drew ?_) | (with_reducible refine SinceOf.drewN ?_ _) | (with_reducible refine SinceOf.later ?_ _) | (with_reducible refine SinceOf.further ?_ _) | (with_reducible refine SinceOf.setCell ?_ (by first | exact Nat.le_refl _ | (simp; done) | omega | (simp; omega)) _))))
        obtain ⟨g', off', he, hr⟩ := hr0.at_ (by omega)
        injection he with he
        injection he with hg1 ho1
        subst hg1 ho1
        have hO' := hr.there
        have x0 := hr.v0 i hlt
        have x1 := hr.v1 i hlt
        generalize r[i] = x at *
        obtain ⟨xx, xy⟩ := x
        obtain ⟨bx, by_⟩ := b
        simp only at x0 x1
        have d0 := e1.c0
        have d1 := e1.c1
        have q0 := e3.c0
        have q1 := e3.c1
        have f0 := e3.f0
        have f1 := e3.f1
        have hg3 := e3.lt
        have hg1 := e1.lt
        have hU1 : Nonempty (Old u.wd w.heap.size) := ⟨⟨by omega⟩⟩
        have hU3 : Nonempty (Old u.wd gb) := ⟨⟨by omega⟩⟩
        simp only at d0 d1 q0 q1
        have D1 := refDot_any xx xy dx dy
        have D2 := refDot_any bx by_ dx dy
        have L1 := refLess_any xx xy bx by_
        have hst : farS (dx, dy) (bx, by_) (xx, xy) = if dotI bx by_ dx dy < dotI xx xy dx dy ∨ (dotI xx xy dx dy = dotI bx by_ dx dy ∧ lessB xx xy bx by_ = true) then (xx, xy) else (bx, by_) := farS_eq _ _ _
        generalize dotI xx xy dx dy = m1 at *
        generalize dotI bx by_ dx dy = m2 at *
        generalize lessB xx xy bx by_ = lb at *
        have HE := Lib.hid (And.intro hall (And.intro hst (And.intro e1 (And.intro e2 e3))))
        clear hall hst e1 e2 e3 hr hr0
        rcases Int.lt_trichotomy m1 m2 with h | h | h
        · have e1 : decide (m2 < m1) = false := decide_eq_false (by omega)
          have e2 : (m1 == m2) = false := by simp; omega
          go_wp2_with fail
          refine region_later (by kernel_rfl) (by kernel_rfl) ?_
          repeat (go_big_quiet_step ((first | with_reducible refine Gives.later (D1 _) | with_reducible refine Gives.later (D2 _))))
          refine wpQuiet_nil ?_
          rintro _ ⟨z4, rfl⟩
          clear D1 D2
          go_wp2_with fail
          refine region_later (by kernel_rfl) (by kernel_rfl) ?_
          repeat (go_big_quiet_step ((with_reducible refine Gives.later (L1 _))))
          refine wpQuiet_nil ?_
          rintro _ ⟨z5, rfl⟩
          go_wp2_with fail
          go_roundg (r.length - (i + 1))
          case measure => omega
          case rel =>
            refine ⟨i + 1, (bx, by_), hlt, Nat.le_refl _, by go_num, HE.out.2.2.1.of (by (repeat (first | (with_reducible exact SinceOf.refl _) | (with_reducible assumption) | (with_reducible refine SinceOf.alloc ?_ _) | (with_reducible refine SinceOf.drew ?_) | (with_reducible refine SinceOf.drewN ?_ _) | (with_reducible refine SinceOf.later ?_ _) | (with_reducible refine SinceOf.further ?_ _) | (with_reducible refine SinceOf.setCell ?_ (by first | exact Nat.le_refl _ | (simp; done) | omega | (simp; omega)) _)))), HE.out.2.2.2.1.of (by (repeat (first | (with_reducible exact SinceOf.refl _) | (with_reducible assumption) | (with_reducible refine SinceOf.alloc ?_ _) | (with_reducible refine SinceOf.drew ?_) | (with_reducible refine SinceOf.drewN ?_ _) | (with_reducible refine SinceOf.later ?_ _) | (with_reducible refine SinceOf.further ?_ _) | (with_reducible refine SinceOf.setCell ?_ (by first | exact Nat.le_refl _ | (simp; done) | omega | (simp; omega)) _)))), HE.out.2.2.2.2.of (by (repeat (first | (with_reducible exact SinceOf.refl _) | (with_reducible assumption) | (with_reducible refine SinceOf.alloc ?_ _) | (with_reducible refine SinceOf.drew ?_) | (with_reducible refine SinceOf.drewN ?_ _) | (with_reducible refine SinceOf.later ?_ _) | (with_reducible refine SinceOf.further ?_ _) | (with_reducible refine SinceOf.setCell ?_ (by first | exact Nat.le_refl _ | (simp; done) | omega | (simp; omega)) _)))), by (repeat (first | (with_reducible exact SinceOf.refl _) | (with_reducible assumption) | (with_reducible refine SinceOf.alloc ?_ _) | (with_reducible refine SinceOf.drew ?_) | (with_reducible refine SinceOf.drewN ?_ _) | (with_reducible refine SinceOf.later ?_ _) | (with_reducible refine SinceOf.further ?_ _) | (with_reducible refine SinceOf.setCell ?_ (by first | exact Nat.le_refl _ | (simp; done) | omega | (simp; omega)) _))), ?_⟩
            rw [HE.out.1, HE.out.2.1, if_neg (fun q => by omega)]
        · subst h
          cases lb
          · go_wp2_with fail
            refine region_later (by kernel_rfl) (by kernel_rfl) ?_
            repeat (go_big_quiet_step ((first | with_reducible refine Gives.later (D1 _) | with_reducible refine Gives.later (D2 _))))
            refine wpQuiet_nil ?_
            rintro _ ⟨z4, rfl⟩
            clear D1 D2
            go_wp2_with fail
            refine region_later (by kernel_rfl) (by kernel_rfl) ?_
            repeat (go_big_quiet_step ((with_reducible refine Gives.later (L1 _))))
            refine wpQuiet_nil ?_
            rintro _ ⟨z5, rfl⟩
            go_wp2_with fail
            go_roundg (r.length - (i + 1))
            case measure => omega
            case rel =>
              refine ⟨i + 1, (bx, by_), hlt, Nat.le_refl _, by go_num, HE.out.2.2.1.of (by (repeat (first | (with_reducible exact SinceOf.refl _) | (with_reducible assumption) | (with_reducible refine SinceOf.alloc ?_ _) | (with_reducible refine SinceOf.drew ?_) | (with_reducible refine SinceOf.drewN ?_ _) | (with_reducible refine SinceOf.later ?_ _) | (with_reducible refine SinceOf.further ?_ _) | (with_reducible refine SinceOf.setCell ?_ (by first | exact Nat.le_refl _ | (simp; done) | omega | (simp; omega)) _)))), HE.out.2.2.2.1.of (by (repeat (first | (with_reducible exact SinceOf.refl _) | (with_reducible assumption) | (with_reducible refine SinceOf.alloc ?_ _) | (with_reducible refine SinceOf.drew ?_) | (with_reducible refine SinceOf.drewN ?_ _) | (with_reducible refine SinceOf.later ?_ _) | (with_reducible refine SinceOf.further ?_ _) | (with_reducible refine SinceOf.setCell ?_ (by first | exact Nat.le_refl _ | (simp; done) | omega | (simp; omega)) _)))), HE.out.2.2.2.2.of (by (repeat (first | (with_reducible exact SinceOf.refl _) | (with_reducible assumption) | (with_reducible refine SinceOf.alloc ?_ _) | (with_reducible refine SinceOf.drew ?_) | (with_reducible refine SinceOf.drewN ?_ _) | (with_reducible refine SinceOf.later ?_ _) | (with_reducible refine SinceOf.further ?_ _) | (with_reducible refine SinceOf.setCell ?_ (by first | exact Nat.le_refl _ | (simp; done) | omega | (simp; omega)) _)))), by (repeat (first | (with_reducible exact SinceOf.refl _) | (with_reducible assumption) | (with_reducible refine SinceOf.alloc ?_ _) | (with_reducible refine SinceOf.drew ?_) | (with_reducible refine SinceOf.drewN ?_ _) | (with_reducible refine SinceOf.later ?_ _) | (with_reducible refine SinceOf.further ?_ _) | (with_reducible refine SinceOf.setCell ?_ (by first | exact Nat.le_refl _ | (simp; done) | omega | (simp; omega)) _))), ?_⟩
              rw [HE.out.1, HE.out.2.1, if_neg (fun q => q.elim (fun q => absurd q (by omega)) (fun q => by cases q.2))]
          · go_wp2_with fail
            refine region_later (by kernel_rfl) (by kernel_rfl) ?_
            repeat (go_big_quiet_step ((first | with_reducible refine Gives.later (D1 _) | with_reducible refine Gives.later (D2 _))))
            refine wpQuiet_nil ?_
            rintro _ ⟨z4, rfl⟩
            clear D1 D2
            go_wp2_with fail
            refine region_later (by kernel_rfl) (by kernel_rfl) ?_
            repeat (go_big_quiet_step ((with_reducible refine Gives.later (L1 _))))
            refine wpQuiet_nil ?_
            rintro _ ⟨z5, rfl⟩
            go_wp2_with fail
            go_roundg (r.length - (i + 1))
            case measure => omega
            case rel =>
              refine ⟨i + 1, (xx, xy), hlt, Nat.le_refl _, by go_num, (HE.out.2.2.1.of (by (repeat (first | (with_reducible exact SinceOf.refl _) | (with_reducible assumption) | (with_reducible refine SinceOf.alloc ?_ _) | (with_reducible refine SinceOf.drew ?_) | (with_reducible refine SinceOf.drewN ?_ _) | (with_reducible refine SinceOf.later ?_ _) | (with_reducible refine SinceOf.further ?_ _) | (with_reducible refine SinceOf.setCell ?_ (by first | exact Nat.le_refl _ | (simp; done) | omega | (simp; omega)) _))))).other (by omega) _ _, (HE.out.2.2.2.1.of (by (repeat (first | (with_reducible exact SinceOf.refl _) | (with_reducible assumption) | (with_reducible refine SinceOf.alloc ?_ _) | (with_reducible refine SinceOf.drew ?_) | (with_reducible refine SinceOf.drewN ?_ _) | (with_reducible refine SinceOf.later ?_ _) | (with_reducible refine SinceOf.further ?_ _) | (with_reducible refine SinceOf.setCell ?_ (by first | exact Nat.le_refl _ | (simp; done) | omega | (simp; omega)) _))))).other (by omega) _ _, (HE.out.2.2.2.2.of (by (repeat (first | (with_reducible exact SinceOf.refl _) | (with_reducible assumption) | (with_reducible refine SinceOf.alloc ?_ _) | (with_reducible refine SinceOf.drew ?_) | (with_reducible refine SinceOf.drewN ?_ _) | (with_reducible refine SinceOf.later ?_ _) | (with_reducible refine SinceOf.further ?_ _) | (with_reducible refine SinceOf.setCell ?_ (by first | exact Nat.le_refl _ | (simp; done) | omega | (simp; omega)) _))))).put _ _, (SinceOf.setCell (SinceOf.setCell (by (repeat (first | (with_reducible exact SinceOf.refl _) | (with_reducible assumption) | (with_reducible refine SinceOf.alloc ?_ _) | (with_reducible refine SinceOf.drew ?_) | (with_reducible refine SinceOf.drewN ?_ _) | (with_reducible refine SinceOf.later ?_ _) | (with_reducible refine SinceOf.further ?_ _) | (with_reducible refine SinceOf.setCell ?_ (by first | exact Nat.le_refl _ | (simp; done) | omega | (simp; omega)) _)))) (by simp; omega) _) (by simp; omega) _), ?_⟩
              rw [HE.out.1, HE.out.2.1, if_pos (.inr ⟨(by first | rfl | trivial), (by first | rfl | trivial)⟩)]
        · have e1 : decide (m2 < m1) = true := decide_eq_true h
          go_wp2_with fail
          refine region_later (by kernel_rfl) (by kernel_rfl) ?_
          repeat (go_big_quiet_step ((first | with_reducible refine Gives.later (D1 _) | with_reducible refine Gives.later (D2 _))))
          refine wpQuiet_nil ?_
          rintro _ ⟨z4, rfl⟩
          clear D1 D2
          go_wp2_with fail
          refine region_later (by kernel_rfl) (by kernel_rfl) ?_
          repeat (go_big_quiet_step ((with_reducible refine Gives.later (L1 _))))
          refine wpQuiet_nil ?_
          rintro _ ⟨z5, rfl⟩
          go_wp2_with fail
          go_roundg (r.length - (i + 1))
          case measure => omega
          case rel =>
            refine ⟨i + 1, (xx, xy), hlt, Nat.le_refl _, by go_num, (HE.out.2.2.1.of (by (repeat (first | (with_reducible exact SinceOf.refl _) | (with_reducible assumption) | (with_reducible refine SinceOf.alloc ?_ _) | (with_reducible refine SinceOf.drew ?_) | (with_reducible refine SinceOf.drewN ?_ _) | (with_reducible refine SinceOf.later ?_ _) | (with_reducible refine SinceOf.further ?_ _) | (with_reducible refine SinceOf.setCell ?_ (by first | exact Nat.le_refl _ | (simp; done) | omega | (simp; omega)) _))))).other (by omega) _ _, (HE.out.2.2.2.1.of (by (repeat (first | (with_reducible exact SinceOf.refl _) | (with_reducible assumption) | (with_reducible refine SinceOf.alloc ?_ _) | (with_reducible refine SinceOf.drew ?_) | (with_reducible refine SinceOf.drewN ?_ _) | (with_reducible refine SinceOf.later ?_ _) | (with_reducible refine SinceOf.further ?_ _) | (with_reducible refine SinceOf.setCell ?_ (by first | exact Nat.le_refl _ | (simp; done) | omega | (simp; omega)) _))))).other (by omega) _ _, (HE.out.2.2.2.2.of (by (repeat (first | (with_reducible exact SinceOf.refl _) | (with_reducible assumption) | (with_reducible refine SinceOf.alloc ?_ _) | (with_reducible refine SinceOf.drew ?_) | (with_reducible refine SinceOf.drewN ?_ _) | (with_reducible refine SinceOf.later ?_ _) | (with_reducible refine SinceOf.further ?_ _) | (with_reducible refine SinceOf.setCell ?_ (by first | exact Nat.le_refl _ | (simp; done) | omega | (simp; omega)) _))))).put _ _, (SinceOf.setCell (SinceOf.setCell (by (repeat (first | (with_reducible exact SinceOf.refl _) | (with_reducible assumption) | (with_reducible refine SinceOf.alloc ?_ _) | (with_reducible refine SinceOf.drew ?_) | (with_reducible refine SinceOf.drewN ?_ _) | (with_reducible refine SinceOf.later ?_ _) | (with_reducible refine SinceOf.further ?_ _) | (with_reducible refine SinceOf.setCell ?_ (by first | exact Nat.le_refl _ | (simp; done) | omega | (simp; omega)) _)))) (by simp; omega) _) (by simp; omega) _), ?_⟩
            rw [HE.out.1, HE.out.2.1, if_pos (.inl h)]
      · have hil : i = r.length := by omega
        subst hil
        rw [List.drop_length] at hall
        have q0 := e3.c0
        have q1 := e3.c1
        have r0 := e2.c0
        have r1 := e2.c1
        have g0 := e2.f0
        have g1 := e2.f1
        have hg3 := e3.lt
        have hg1 := e2.lt
        have hU1 : Nonempty (Old u.wd (w.heap.size + 1)) := ⟨⟨by omega⟩⟩
        have hU3 : Nonempty (Old u.wd gb) := ⟨⟨by omega⟩⟩
        have P := e2.put b.1 b.2
        have p0 := P.c0
        have p1 := P.c1
        have p2 : (u.wd.setCell ⟨w.heap.size + 1, 0, none⟩ (.int .i64 b.1)).cell? ⟨w.heap.size + 1, 0, none⟩ = some (.int .i64 b.1) := World.cell?_setCell_same _ _ _ r0
        simp only at p0 p1
        have HA := Lib.hid hall
        clear hall e1 e2 e3 P
        go_wp2_with fail
        (try simp only [Exit.inBlock, Exit.then])
        refine bodyPost_ret (by simp [results, Try.results35, go_sem, *]; try rfl) rfl ?_
        exact ⟨by rw [HA.out]; rfl, SinceOf.setCell (SinceOf.setCell (by (repeat (first | (with_reducible exact SinceOf.refl _) | (with_reducible assumption) | (with_reducible refine SinceOf.alloc ?_ _) | (with_reducible refine SinceOf.drew ?_) | (with_reducible refine SinceOf.drewN ?_ _) | (with_reducible refine SinceOf.later ?_ _) | (with_reducible refine SinceOf.further ?_ _) | (with_reducible refine SinceOf.setCell ?_ (by first | exact Nat.le_refl _ | (simp; done) | omega | (simp; omega)) _)))) (by simp) _) (by simp) _⟩
  · rw [if_neg hc]
    have hb : (ck != 0) = true := by simp; exact hc
    have HE := Lib.hid hc
    clear hc
    go_enter Try.func35, Try.ntmps35
    go_wp2_with fail
    refine (C _ (by (repeat (first | (with_reducible exact SinceOf.refl _) | (with_reducible assumption) | (with_reducible refine SinceOf.alloc ?_ _) | (with_reducible refine SinceOf.drew ?_) | (with_reducible refine SinceOf.drewN ?_ _) | (with_reducible refine SinceOf.later ?_ _) | (with_reducible refine SinceOf.further ?_ _) | (with_reducible refine SinceOf.setCell ?_ (by first | exact Nat.le_refl _ | (simp; done) | omega | (simp; omega)) _))))).calls.mono ?_
    rintro e _ ⟨rfl, x1, rfl⟩
    clear C
    go_wp2_with fail
    go_returns
    exact ⟨rfl, by (repeat (first | (with_reducible exact SinceOf.refl _) | (with_reducible assumption) | (with_reducible refine SinceOf.alloc ?_ _) | (with_reducible refine SinceOf.drew ?_) | (with_reducible refine SinceOf.drewN ?_ _) | (with_reducible refine SinceOf.later ?_ _) | (with_reducible refine SinceOf.further ?_ _) | (with_reducible refine SinceOf.setCell ?_ (by first | exact Nat.le_refl _ | (simp; done) | omega | (simp; omega)) _)))⟩
end Go.Proofs.Yticmfmcflikneaa
