/- Layer 52 (reference): Check. (printed by gensch32.py) -/
import Derived.Test.YtdcncalcncomoaaSch31
import Derived.Test.YtdcncalcncomoaaSch20
namespace Go.Proofs.Ytdcncalcncomoaa
open Go.RowKit Go.Sort
set_option linter.unusedVariables false
attribute [local go_sem ↓] Go.wp_at_zero Go.wp_at_succ

def jobR (s : ShopR) (j : JobR) : Bool := restB s.rows.length j && machsB s.cals.length j.ms
def headR (s : ShopR) (L : List JobR) : Bool := decide (1 ≤ s.cals.length) && (decide (s.cals.length ≤ 6) && (setupsR s.rows && (decide (1 ≤ s.most) && (decide (s.most ≤ 40) && decide (L.length ≤ 40)))))
def refCheckB (s : ShopR) (L : List JobR) : Bool := headR s L && (!s.cals.any wrongC && L.all (jobR s))
set_option maxRecDepth 100000 in
set_option maxHeartbeats 16000000 in
theorem refCheck52_any (s : ShopR) (A : Option Addr) (c : Nat) (L : List JobR) (w : World) (hs : IsShop w s) (h : IsJobs w A c L) : Gives Try.prog 33 #[shopV s, .slice A L.length c] w (.bool (refCheckB s L)) := by
  apply Gives.ret
  have SU := fun W hW => setups_any s.B s.d s.rows W (hs.of (w' := W) hW).rows
  have hcl := hs.cals.len
  have hrl := hs.rows.len
  have hll := h.len
  obtain ⟨sA, sc, cals, sB, sd, R, most⟩ := s
  simp only at hcl hrl SU
  have H := Lib.hid (And.intro hs h)
  have hb : refCheckB ⟨sA, sc, cals, sB, sd, R, most⟩ L = ((decide (1 ≤ cals.length) && (decide (cals.length ≤ 6) && (setupsR R && (decide (1 ≤ most) && (decide (most ≤ 40) && decide (L.length ≤ 40)))))) && (!cals.any wrongC && L.all (jobR ⟨sA, sc, cals, sB, sd, R, most⟩))) := rfl
  clear hs h
  have hcase : (cals.length < 1) ∨ (¬ cals.length < 1 ∧ 6 < cals.length) ∨ (¬ cals.length < 1 ∧ ¬ 6 < cals.length ∧ setupsR R = false) ∨ (¬ cals.length < 1 ∧ ¬ 6 < cals.length ∧ ¬ setupsR R = false ∧ most < 1) ∨ (¬ cals.length < 1 ∧ ¬ 6 < cals.length ∧ ¬ setupsR R = false ∧ ¬ most < 1 ∧ 40 < most) ∨ (¬ cals.length < 1 ∧ ¬ 6 < cals.length ∧ ¬ setupsR R = false ∧ ¬ most < 1 ∧ ¬ 40 < most ∧ 40 < L.length) ∨ (¬ cals.length < 1 ∧ ¬ 6 < cals.length ∧ ¬ setupsR R = false ∧ ¬ most < 1 ∧ ¬ 40 < most ∧ ¬ 40 < L.length) := by
    by_cases e0 : cals.length < 1
    · exact .inl e0
    by_cases e1 : 6 < cals.length
    · exact .inr (.inl ⟨e0, e1⟩)
    by_cases e2 : setupsR R = false
    · exact .inr (.inr (.inl ⟨e0, e1, e2⟩))
    by_cases e3 : most < 1
    · exact .inr (.inr (.inr (.inl ⟨e0, e1, e2, e3⟩)))
    by_cases e4 : 40 < most
    · exact .inr (.inr (.inr (.inr (.inl ⟨e0, e1, e2, e3, e4⟩))))
    by_cases e5 : 40 < L.length
    · exact .inr (.inr (.inr (.inr (.inr (.inl ⟨e0, e1, e2, e3, e4, e5⟩)))))
    exact .inr (.inr (.inr (.inr (.inr (.inr ⟨e0, e1, e2, e3, e4, e5⟩)))))
  rcases hcase with e0 | ⟨e0, e1⟩ | ⟨e0, e1, e2⟩ | ⟨e0, e1, e2, e3⟩ | ⟨e0, e1, e2, e3, e4⟩ | ⟨e0, e1, e2, e3, e4, e5⟩ | ⟨e0, e1, e2, e3, e4, e5⟩
  iterate 6
    · have hf : refCheckB ⟨sA, sc, cals, sB, sd, R, most⟩ L = false := by
        rw [hb]
        first
          | (rw [show decide (1 ≤ cals.length) = false from decide_eq_false (by omega)]; simp)
          | (rw [show decide (cals.length ≤ 6) = false from decide_eq_false (by omega)]; simp)
          | (rw [show decide (1 ≤ most) = false from decide_eq_false (by omega)]; simp)
          | (rw [show decide (most ≤ 40) = false from decide_eq_false (by omega)]; simp)
          | (rw [show decide (L.length ≤ 40) = false from decide_eq_false (by omega)]; simp)
          | (rw [e2]; simp)
      generalize hsv : setupsR R = sv at *
      have HF := Lib.hid hf
      clear hf hb
      (try subst e2)
      (try (have e2' : sv = true := by (cases sv; simp at e2; rfl)); subst e2')
      go_enter Try.func33, Try.ntmps33
      go_wp2_with fail
      try (refine (SU _ (by (repeat (first | (with_reducible exact SinceOf.refl _) | (with_reducible assumption) | (with_reducible refine SinceOf.alloc ?_ _) | (with_reducible refine SinceOf.drew ?_) | (with_reducible refine SinceOf.drewN ?_ _) | (with_reducible refine SinceOf.later ?_ _) | (with_reducible refine SinceOf.further ?_ _) | (with_reducible refine SinceOf.setCell ?_ (by first | exact Nat.le_refl _ | (simp; done) | omega | (simp; omega)) _))))).calls.mono ?_; rintro e _ ⟨rfl, x1, rfl⟩; go_wp2_with fail)
      go_returns
      exact ⟨by rw [HF.out]; rfl, by (repeat (first | (with_reducible exact LaterOf.refl _) | (with_reducible refine LaterOf.alloc ?_ _) | (with_reducible refine LaterOf.drew ?_) | (with_reducible refine LaterOf.drewN ?_ _) | (with_reducible refine LaterOf.later ?_ _) | (with_reducible refine LaterOf.setCell ?_ (by first | exact Nat.le_refl _ | (simp; done) | omega | (simp; omega)) _)))⟩
  have e2' : setupsR R = true := by
    cases hq : setupsR R
    · exact absurd hq e2
    · rfl
  rw [e2', show decide (1 ≤ cals.length) = true from decide_eq_true (by omega), show decide (cals.length ≤ 6) = true from decide_eq_true (by omega), show decide (1 ≤ most) = true from decide_eq_true (by omega), show decide (most ≤ 40) = true from decide_eq_true (by omega), show decide (L.length ≤ 40) = true from decide_eq_true (by omega)] at hb
  simp only [Bool.true_and, Bool.and_true] at hb
  rw [e2'] at SU
  have HB := Lib.hid hb
  clear hb e2 e2'
  go_enter Try.func33, Try.ntmps33
  go_wp2_with fail
  refine (SU _ (by (repeat (first | (with_reducible exact SinceOf.refl _) | (with_reducible assumption) | (with_reducible refine SinceOf.alloc ?_ _) | (with_reducible refine SinceOf.drew ?_) | (with_reducible refine SinceOf.drewN ?_ _) | (with_reducible refine SinceOf.later ?_ _) | (with_reducible refine SinceOf.further ?_ _) | (with_reducible refine SinceOf.setCell ?_ (by first | exact Nat.le_refl _ | (simp; done) | omega | (simp; omega)) _))))).calls.mono ?_
  rintro e _ ⟨rfl, x1, rfl⟩
  clear SU
  go_wp2_with fail
  go_loopg [5] cals.length (fun gas s5 wr => ∃ k : Nat, k ≤ cals.length ∧ cals.length - k ≤ gas ∧ s5 = .int .i64 k ∧ LaterOf x1.wd wr ∧ cals.any wrongC = (cals.drop k).any wrongC)
  case atStart => exact ⟨0, by omega, by omega, rfl, by (repeat (first | (with_reducible exact LaterOf.refl _) | (with_reducible refine LaterOf.alloc ?_ _) | (with_reducible refine LaterOf.drew ?_) | (with_reducible refine LaterOf.drewN ?_ _) | (with_reducible refine LaterOf.later ?_ _) | (with_reducible refine LaterOf.setCell ?_ (by first | exact Nat.le_refl _ | (simp; done) | omega | (simp; omega)) _))), by rw [List.drop_zero]⟩
  case round =>
    obtain ⟨k, hk, hgas, rfl, ⟨z, rfl⟩, hany⟩ := hrel
    by_cases hlt : k < cals.length
    · have hc := H.out.1.cals.of (w' := z.wd) (by (repeat (first | (with_reducible exact SinceOf.refl _) | (with_reducible assumption) | (with_reducible refine SinceOf.alloc ?_ _) | (with_reducible refine SinceOf.drew ?_) | (with_reducible refine SinceOf.drewN ?_ _) | (with_reducible refine SinceOf.later ?_ _) | (with_reducible refine SinceOf.further ?_ _) | (with_reducible refine SinceOf.setCell ?_ (by first | exact Nat.le_refl _ | (simp; done) | omega | (simp; omega)) _))))
      have hx := hc.all _ (List.getElem_mem hlt)
      obtain ⟨g, off, he, hr⟩ := hc.row.at_ (by simpa using (show 0 < cals.length by omega))
      simp only at he
      subst he
      have hO := hr.there
      have k0 := hr.k0 k hlt
      have k1 := hr.k1 k hlt
      have k2 := hr.k2 k hlt
      rw [any_drop wrongC hlt] at hany
      have hwr : wrongC cals[k] = !validB cals[k].P cals[k].S cals[k].D := rfl
      have V := hx.refValid (v := validB cals[k].P cals[k].S cals[k].D) rfl
      generalize validB cals[k].P cals[k].S cals[k].D = v at *
      generalize wrongC cals[k] = b at *
      simp only at k0 k1 k2 V
      generalize cals[k] = x at *
      obtain ⟨xP, xA, xc, xS, xB, xd, xD⟩ := x
      simp only at k0 k1 k2 V
      subst hwr
      clear hc hx hr
      cases v
      all_goals
        have HA := Lib.hid hany
        clear hany
        go_wp2_with fail
        refine (V _ (by (repeat (first | (with_reducible exact SinceOf.refl _) | (with_reducible assumption) | (with_reducible refine SinceOf.alloc ?_ _) | (with_reducible refine SinceOf.drew ?_) | (with_reducible refine SinceOf.drewN ?_ _) | (with_reducible refine SinceOf.later ?_ _) | (with_reducible refine SinceOf.further ?_ _) | (with_reducible refine SinceOf.setCell ?_ (by first | exact Nat.le_refl _ | (simp; done) | omega | (simp; omega)) _))))).calls.mono ?_
        rintro e _ ⟨rfl, z2, rfl⟩
        go_wp2_with fail
      · go_returns
        exact ⟨by rw [HB.out, HA.out]; rfl, by (repeat (first | (with_reducible exact LaterOf.refl _) | (with_reducible refine LaterOf.alloc ?_ _) | (with_reducible refine LaterOf.drew ?_) | (with_reducible refine LaterOf.drewN ?_ _) | (with_reducible refine LaterOf.later ?_ _) | (with_reducible refine LaterOf.setCell ?_ (by first | exact Nat.le_refl _ | (simp; done) | omega | (simp; omega)) _)))⟩
      · go_roundg (cals.length - (k + 1))
        case measure => omega
        case rel => exact ⟨k + 1, hlt, Nat.le_refl _, by go_num, by (repeat (first | (with_reducible exact LaterOf.refl _) | (with_reducible refine LaterOf.alloc ?_ _) | (with_reducible refine LaterOf.drew ?_) | (with_reducible refine LaterOf.drewN ?_ _) | (with_reducible refine LaterOf.later ?_ _) | (with_reducible refine LaterOf.setCell ?_ (by first | exact Nat.le_refl _ | (simp; done) | omega | (simp; omega)) _))), by rw [HA.out]; rfl⟩
    · have hkl : k = cals.length := by omega
      rw [hkl, List.drop_length] at hany
      have hbb := HB.out
      rw [hany] at hbb
      simp only [List.any_nil, Bool.not_false, Bool.true_and] at hbb
      have HB := Lib.hid hbb
      clear hany hkl hbb
      go_wp2_with fail
      go_loopg [6] L.length (fun gas s6 wr => ∃ k : Nat, k ≤ L.length ∧ L.length - k ≤ gas ∧ s6 = .int .i64 k ∧ LaterOf x1.wd wr ∧ L.all (jobR ⟨sA, sc, cals, sB, sd, R, most⟩) = (L.drop k).all (jobR ⟨sA, sc, cals, sB, sd, R, most⟩))
      case atStart => exact ⟨0, by omega, by omega, rfl, by (repeat (first | (with_reducible exact LaterOf.refl _) | (with_reducible refine LaterOf.alloc ?_ _) | (with_reducible refine LaterOf.drew ?_) | (with_reducible refine LaterOf.drewN ?_ _) | (with_reducible refine LaterOf.later ?_ _) | (with_reducible refine LaterOf.setCell ?_ (by first | exact Nat.le_refl _ | (simp; done) | omega | (simp; omega)) _))), by rw [List.drop_zero]⟩
      case round =>
        obtain ⟨k, hk, hgas, rfl, ⟨z, rfl⟩, hall⟩ := hrel
        by_cases hlt : k < L.length
        · have hc := H.out.2.of (w' := z.wd) (by (repeat (first | (with_reducible exact SinceOf.refl _) | (with_reducible assumption) | (with_reducible refine SinceOf.alloc ?_ _) | (with_reducible refine SinceOf.drew ?_) | (with_reducible refine SinceOf.drewN ?_ _) | (with_reducible refine SinceOf.later ?_ _) | (with_reducible refine SinceOf.further ?_ _) | (with_reducible refine SinceOf.setCell ?_ (by first | exact Nat.le_refl _ | (simp; done) | omega | (simp; omega)) _))))
          have hx := hc.all _ (List.getElem_mem hlt)
          obtain ⟨g, off, rfl, hr⟩ := hc.row.at_ (by omega)
          have hO := hr.there
          have j0 := hr.j0 k hlt
          have j1 := hr.j1 k hlt
          have j2 := hr.j2 k hlt
          have j3 := hr.j3 k hlt
          have j4 := hr.j4 k hlt
          have j5 := hr.j5 k hlt
          rw [all_drop _ hlt] at hall
          generalize L[k] = x at *
          obtain ⟨jA, jc, ms, dur, cls, rel, due, ord⟩ := x
          simp only at j0 j1 j2 j3 j4 j5 hx
          have hjr : jobR ⟨sA, sc, cals, sB, sd, R, most⟩ ⟨jA, jc, ms, dur, cls, rel, due, ord⟩ = ((decide (0 < ms.length) && ((decide (1 ≤ dur) && decide (dur ≤ 10000)) && ((decide (0 ≤ cls) && decide (cls ≤ (R.length : Int) - 1)) && ((decide (0 ≤ rel) && decide (rel ≤ 1000000)) && ((decide (0 ≤ due) && decide (due ≤ 1000000)) && (decide (0 ≤ ord) && decide (ord ≤ 1000))))))) && machsB cals.length ms) := rfl
          have hmc := hx.1
          have hml := hx.2
          clear hc hr hx
          have hcase : (ms.length < 1) ∨ (¬ ms.length < 1 ∧ dur < 1) ∨ (¬ ms.length < 1 ∧ ¬ dur < 1 ∧ 10000 < dur) ∨ (¬ ms.length < 1 ∧ ¬ dur < 1 ∧ ¬ 10000 < dur ∧ cls < 0) ∨ (¬ ms.length < 1 ∧ ¬ dur < 1 ∧ ¬ 10000 < dur ∧ ¬ cls < 0 ∧ (R.length : Int) ≤ cls) ∨ (¬ ms.length < 1 ∧ ¬ dur < 1 ∧ ¬ 10000 < dur ∧ ¬ cls < 0 ∧ ¬ (R.length : Int) ≤ cls ∧ rel < 0) ∨ (¬ ms.length < 1 ∧ ¬ dur < 1 ∧ ¬ 10000 < dur ∧ ¬ cls < 0 ∧ ¬ (R.length : Int) ≤ cls ∧ ¬ rel < 0 ∧ 1000000 < rel) ∨ (¬ ms.length < 1 ∧ ¬ dur < 1 ∧ ¬ 10000 < dur ∧ ¬ cls < 0 ∧ ¬ (R.length : Int) ≤ cls ∧ ¬ rel < 0 ∧ ¬ 1000000 < rel ∧ due < 0) ∨ (¬ ms.length < 1 ∧ ¬ dur < 1 ∧ ¬ 10000 < dur ∧ ¬ cls < 0 ∧ ¬ (R.length : Int) ≤ cls ∧ ¬ rel < 0 ∧ ¬ 1000000 < rel ∧ ¬ due < 0 ∧ 1000000 < due) ∨ (¬ ms.length < 1 ∧ ¬ dur < 1 ∧ ¬ 10000 < dur ∧ ¬ cls < 0 ∧ ¬ (R.length : Int) ≤ cls ∧ ¬ rel < 0 ∧ ¬ 1000000 < rel ∧ ¬ due < 0 ∧ ¬ 1000000 < due ∧ ord < 0) ∨ (¬ ms.length < 1 ∧ ¬ dur < 1 ∧ ¬ 10000 < dur ∧ ¬ cls < 0 ∧ ¬ (R.length : Int) ≤ cls ∧ ¬ rel < 0 ∧ ¬ 1000000 < rel ∧ ¬ due < 0 ∧ ¬ 1000000 < due ∧ ¬ ord < 0 ∧ 1000 < ord) ∨ (¬ ms.length < 1 ∧ ¬ dur < 1 ∧ ¬ 10000 < dur ∧ ¬ cls < 0 ∧ ¬ (R.length : Int) ≤ cls ∧ ¬ rel < 0 ∧ ¬ 1000000 < rel ∧ ¬ due < 0 ∧ ¬ 1000000 < due ∧ ¬ ord < 0 ∧ ¬ 1000 < ord) := by
            by_cases e0 : ms.length < 1
            · exact .inl e0
            by_cases e1 : dur < 1
            · exact .inr (.inl ⟨e0, e1⟩)
            by_cases e2 : 10000 < dur
            · exact .inr (.inr (.inl ⟨e0, e1, e2⟩))
            by_cases e3 : cls < 0
            · exact .inr (.inr (.inr (.inl ⟨e0, e1, e2, e3⟩)))
            by_cases e4 : (R.length : Int) ≤ cls
            · exact .inr (.inr (.inr (.inr (.inl ⟨e0, e1, e2, e3, e4⟩))))
            by_cases e5 : rel < 0
            · exact .inr (.inr (.inr (.inr (.inr (.inl ⟨e0, e1, e2, e3, e4, e5⟩)))))
            by_cases e6 : 1000000 < rel
            · exact .inr (.inr (.inr (.inr (.inr (.inr (.inl ⟨e0, e1, e2, e3, e4, e5, e6⟩))))))
            by_cases e7 : due < 0
            · exact .inr (.inr (.inr (.inr (.inr (.inr (.inr (.inl ⟨e0, e1, e2, e3, e4, e5, e6, e7⟩)))))))
            by_cases e8 : 1000000 < due
            · exact .inr (.inr (.inr (.inr (.inr (.inr (.inr (.inr (.inl ⟨e0, e1, e2, e3, e4, e5, e6, e7, e8⟩))))))))
            by_cases e9 : ord < 0
            · exact .inr (.inr (.inr (.inr (.inr (.inr (.inr (.inr (.inr (.inl ⟨e0, e1, e2, e3, e4, e5, e6, e7, e8, e9⟩)))))))))
            by_cases e10 : 1000 < ord
            · exact .inr (.inr (.inr (.inr (.inr (.inr (.inr (.inr (.inr (.inr (.inl ⟨e0, e1, e2, e3, e4, e5, e6, e7, e8, e9, e10⟩))))))))))
            exact .inr (.inr (.inr (.inr (.inr (.inr (.inr (.inr (.inr (.inr (.inr ⟨e0, e1, e2, e3, e4, e5, e6, e7, e8, e9, e10⟩))))))))))
          rcases hcase with e0 | ⟨e0, e1⟩ | ⟨e0, e1, e2⟩ | ⟨e0, e1, e2, e3⟩ | ⟨e0, e1, e2, e3, e4⟩ | ⟨e0, e1, e2, e3, e4, e5⟩ | ⟨e0, e1, e2, e3, e4, e5, e6⟩ | ⟨e0, e1, e2, e3, e4, e5, e6, e7⟩ | ⟨e0, e1, e2, e3, e4, e5, e6, e7, e8⟩ | ⟨e0, e1, e2, e3, e4, e5, e6, e7, e8, e9⟩ | ⟨e0, e1, e2, e3, e4, e5, e6, e7, e8, e9, e10⟩ | ⟨e0, e1, e2, e3, e4, e5, e6, e7, e8, e9, e10⟩
          iterate 11
            · have hf : jobR ⟨sA, sc, cals, sB, sd, R, most⟩ ⟨jA, jc, ms, dur, cls, rel, due, ord⟩ = false := by
                rw [hjr]
                first
                  | (rw [show decide (0 < ms.length) = false from decide_eq_false (by omega)]; simp; done)
                  | (rw [show decide (1 ≤ dur) = false from decide_eq_false (by omega)]; simp; done)
                  | (rw [show decide (dur ≤ 10000) = false from decide_eq_false (by omega)]; simp; done)
                  | (rw [show decide (0 ≤ cls) = false from decide_eq_false (by omega)]; simp; done)
                  | (rw [show decide (cls ≤ (R.length : Int) - 1) = false from decide_eq_false (by omega)]; simp; done)
                  | (rw [show decide (0 ≤ rel) = false from decide_eq_false (by omega)]; simp; done)
                  | (rw [show decide (rel ≤ 1000000) = false from decide_eq_false (by omega)]; simp; done)
                  | (rw [show decide (0 ≤ due) = false from decide_eq_false (by omega)]; simp; done)
                  | (rw [show decide (due ≤ 1000000) = false from decide_eq_false (by omega)]; simp; done)
                  | (rw [show decide (0 ≤ ord) = false from decide_eq_false (by omega)]; simp; done)
                  | (rw [show decide (ord ≤ 1000) = false from decide_eq_false (by omega)]; simp; done)
              rw [hf] at hall
              have HA := Lib.hid (And.intro hall hmc)
              clear hall hf hjr hmc
              go_wp2_with fail
              go_returns
              exact ⟨by rw [HB.out, HA.out.1]; rfl, by (repeat (first | (with_reducible exact LaterOf.refl _) | (with_reducible refine LaterOf.alloc ?_ _) | (with_reducible refine LaterOf.drew ?_) | (with_reducible refine LaterOf.drewN ?_ _) | (with_reducible refine LaterOf.later ?_ _) | (with_reducible refine LaterOf.setCell ?_ (by first | exact Nat.le_refl _ | (simp; done) | omega | (simp; omega)) _)))⟩
          have hjm : jobR ⟨sA, sc, cals, sB, sd, R, most⟩ ⟨jA, jc, ms, dur, cls, rel, due, ord⟩ = machsB cals.length ms := by
            rw [hjr, show decide (0 < ms.length) = true from decide_eq_true (by omega), show decide (1 ≤ dur) = true from decide_eq_true (by omega), show decide (dur ≤ 10000) = true from decide_eq_true (by omega), show decide (0 ≤ cls) = true from decide_eq_true (by omega), show decide (cls ≤ (R.length : Int) - 1) = true from decide_eq_true (by omega), show decide (0 ≤ rel) = true from decide_eq_true (by omega), show decide (rel ≤ 1000000) = true from decide_eq_true (by omega), show decide (0 ≤ due) = true from decide_eq_true (by omega), show decide (due ≤ 1000000) = true from decide_eq_true (by omega), show decide (0 ≤ ord) = true from decide_eq_true (by omega), show decide (ord ≤ 1000) = true from decide_eq_true (by omega)]
            rfl
          rw [hjm] at hall
          have HA := Lib.hid (And.intro hall hmc)
          clear hall hjm hjr hmc
          go_wp2_with fail
          go_loopg [8] ms.length (fun gas s8 wr => ∃ i : Nat, i ≤ ms.length ∧ ms.length - i ≤ gas ∧ s8 = .int .i64 i ∧ LaterOf (z.wd.alloc (.cells #[.slice jA ms.length jc, .int .i64 dur, .int .i64 cls, .int .i64 rel, .int .i64 due, .int .i64 ord] 53)) wr ∧ machsB cals.length ms = ((List.range ms.length).drop i).all (machB cals.length ms))
          case atStart => exact ⟨0, by omega, by omega, rfl, by (repeat (first | (with_reducible exact LaterOf.refl _) | (with_reducible refine LaterOf.alloc ?_ _) | (with_reducible refine LaterOf.drew ?_) | (with_reducible refine LaterOf.drewN ?_ _) | (with_reducible refine LaterOf.later ?_ _) | (with_reducible refine LaterOf.setCell ?_ (by first | exact Nat.le_refl _ | (simp; done) | omega | (simp; omega)) _))), by rw [List.drop_zero]; rfl⟩
          case round =>
            obtain ⟨i, hi, hgas2, rfl, ⟨z2, rfl⟩, hm⟩ := hrel
            by_cases hlti : i < ms.length
            · rw [all_range _ hlti] at hm
              have hr := HA.out.2.of (w' := z2.wd) (by (repeat (first | (with_reducible exact SinceOf.refl _) | (with_reducible assumption) | (with_reducible refine SinceOf.alloc ?_ _) | (with_reducible refine SinceOf.drew ?_) | (with_reducible refine SinceOf.drewN ?_ _) | (with_reducible refine SinceOf.later ?_ _) | (with_reducible refine SinceOf.further ?_ _) | (with_reducible refine SinceOf.setCell ?_ (by first | exact Nat.le_refl _ | (simp; done) | omega | (simp; omega)) _))))
              obtain ⟨gm, om, rfl, hr⟩ := hr.at_ (by omega)
              have hOm := hr.there
              have m0 := hr.n0 i hlti
              have p0 := hr.n0 (i - 1) (by omega)
              rw [← getD_at hlti] at m0
              rw [← getD_at (by omega)] at p0
              have hmb : machB cals.length ms i = ((decide (0 ≤ ms.getD i 0) && decide (ms.getD i 0 ≤ (cals.length : Int) - 1)) && !(decide (0 < i) && decide (ms.getD i 0 ≤ ms.getD (i - 1) 0))) := rfl
              generalize hmv : ms.getD i 0 = mv at *
              generalize hpv : ms.getD (i - 1) 0 = pv at *
              have hcase : (mv < 0 ∧ machB cals.length ms i = false) ∨ (¬ mv < 0 ∧ (cals.length : Int) ≤ mv ∧ machB cals.length ms i = false) ∨ (¬ mv < 0 ∧ ¬ (cals.length : Int) ≤ mv ∧ i = 0 ∧ machB cals.length ms i = true) ∨ (¬ mv < 0 ∧ ¬ (cals.length : Int) ≤ mv ∧ 0 < i ∧ mv ≤ pv ∧ machB cals.length ms i = false) ∨ (¬ mv < 0 ∧ ¬ (cals.length : Int) ≤ mv ∧ 0 < i ∧ ¬ mv ≤ pv ∧ machB cals.length ms i = true) := by
                by_cases a1 : mv < 0
                · exact .inl ⟨a1, by rw [hmb, show decide (0 ≤ mv) = false from by simpa using a1]; rfl⟩
                · have b1 : decide (0 ≤ mv) = true := by simp; omega
                  by_cases a2 : (cals.length : Int) ≤ mv
                  · exact .inr (.inl ⟨a1, a2, by rw [hmb, show decide (mv ≤ (cals.length : Int) - 1) = false from decide_eq_false (by omega), Bool.and_false]; rfl⟩)
                  · have b2 : decide (mv ≤ (cals.length : Int) - 1) = true := by simp; omega
                    rw [b1, b2, Bool.true_and, Bool.true_and] at hmb
                    by_cases a3 : i = 0
                    · exact .inr (.inr (.inl ⟨a1, a2, a3, by rw [hmb, a3]; rfl⟩))
                    · have b3 : decide (0 < i) = true := by simp; omega
                      rw [b3, Bool.true_and] at hmb
                      by_cases a4 : mv ≤ pv
                      · exact .inr (.inr (.inr (.inl ⟨a1, a2, by omega, a4, by rw [hmb, show decide (mv ≤ pv) = true from by simpa using a4]; rfl⟩)))
                      · exact .inr (.inr (.inr (.inr ⟨a1, a2, by omega, a4, by rw [hmb, show decide (mv ≤ pv) = false from by simpa using a4]; rfl⟩)))
              clear hmb hr
              have HM := Lib.hid (And.intro hm (And.intro hmv hpv))
              clear hm hmv hpv
              rcases hcase with ⟨a1, e⟩ | ⟨a1, a2, e⟩ | ⟨a1, a2, rfl, e⟩ | ⟨a1, a2, a3, a4, e⟩ | ⟨a1, a2, a3, a4, e⟩
              · have HE := Lib.hid e
                clear e
                have d1 : decide (mv < 0) = true := by simpa using a1
                go_wp2_with fail
                refine region_later (by kernel_rfl) (by kernel_rfl) ?_
                repeat (go_big_quiet_step (fail))
                refine wpQuiet_nil ?_
                rintro _ ⟨z4, rfl⟩
                go_wp2_with fail
                go_returns
                exact ⟨by rw [HB.out, HA.out.1, HM.out.1, HE.out]; rfl, by (repeat (first | (with_reducible exact LaterOf.refl _) | (with_reducible refine LaterOf.alloc ?_ _) | (with_reducible refine LaterOf.drew ?_) | (with_reducible refine LaterOf.drewN ?_ _) | (with_reducible refine LaterOf.later ?_ _) | (with_reducible refine LaterOf.setCell ?_ (by first | exact Nat.le_refl _ | (simp; done) | omega | (simp; omega)) _)))⟩
              · have HE := Lib.hid e
                clear e
                have d1 : decide (mv < 0) = false := by simpa using a1
                have d2 : decide ((cals.length : Int) ≤ mv) = true := by simpa using a2
                go_wp2_with fail
                refine region_later (by kernel_rfl) (by kernel_rfl) ?_
                repeat (go_big_quiet_step (fail))
                refine wpQuiet_nil ?_
                rintro _ ⟨z4, rfl⟩
                go_wp2_with fail
                go_returns
                exact ⟨by rw [HB.out, HA.out.1, HM.out.1, HE.out]; rfl, by (repeat (first | (with_reducible exact LaterOf.refl _) | (with_reducible refine LaterOf.alloc ?_ _) | (with_reducible refine LaterOf.drew ?_) | (with_reducible refine LaterOf.drewN ?_ _) | (with_reducible refine LaterOf.later ?_ _) | (with_reducible refine LaterOf.setCell ?_ (by first | exact Nat.le_refl _ | (simp; done) | omega | (simp; omega)) _)))⟩
              · have HE := Lib.hid e
                clear e p0
                simp only [Nat.add_zero] at m0
                have d1 : decide (mv < 0) = false := by simpa using a1
                have d2 : decide ((cals.length : Int) ≤ mv) = false := by simpa using a2
                go_wp2_with fail
                refine region_later (by kernel_rfl) (by kernel_rfl) ?_
                repeat (go_big_quiet_step (fail))
                refine wpQuiet_nil ?_
                rintro _ ⟨z4, rfl⟩
                go_wp2_with fail
                go_roundg (ms.length - (0 + 1))
                case measure => omega
                case rel => exact ⟨0 + 1, hlti, Nat.le_refl _, by go_num, by (repeat (first | (with_reducible exact LaterOf.refl _) | (with_reducible refine LaterOf.alloc ?_ _) | (with_reducible refine LaterOf.drew ?_) | (with_reducible refine LaterOf.drewN ?_ _) | (with_reducible refine LaterOf.later ?_ _) | (with_reducible refine LaterOf.setCell ?_ (by first | exact Nat.le_refl _ | (simp; done) | omega | (simp; omega)) _))), by rw [HM.out.1, HE.out, Bool.true_and]⟩
              · have HE := Lib.hid e
                clear e
                have d1 : decide (mv < 0) = false := by simpa using a1
                have d2 : decide ((cals.length : Int) ≤ mv) = false := by simpa using a2
                have d3 : decide (0 < i) = true := by simpa using a3
                have d4 : decide (mv ≤ pv) = true := by simpa using a4
                have s1 : IntKind.i64.wrap ((i : Int) - 1) = (i : Int) - 1 := IntWalk.i64_in _ (by omega)
                have s2 : 0 ≤ (i : Int) - 1 := by omega
                have s3 : ((i : Int) - 1).toNat = i - 1 := by omega
                have s4 : (i : Int) - 1 < ms.length := by omega
                go_wp2_with fail
                refine region_later (by kernel_rfl) (by kernel_rfl) ?_
                repeat (go_big_quiet_step (fail))
                refine wpQuiet_nil ?_
                rintro _ ⟨z4, rfl⟩
                go_wp2_with fail
                go_returns
                exact ⟨by rw [HB.out, HA.out.1, HM.out.1, HE.out]; rfl, by (repeat (first | (with_reducible exact LaterOf.refl _) | (with_reducible refine LaterOf.alloc ?_ _) | (with_reducible refine LaterOf.drew ?_) | (with_reducible refine LaterOf.drewN ?_ _) | (with_reducible refine LaterOf.later ?_ _) | (with_reducible refine LaterOf.setCell ?_ (by first | exact Nat.le_refl _ | (simp; done) | omega | (simp; omega)) _)))⟩
              · have HE := Lib.hid e
                clear e
                have d1 : decide (mv < 0) = false := by simpa using a1
                have d2 : decide ((cals.length : Int) ≤ mv) = false := by simpa using a2
                have d3 : decide (0 < i) = true := by simpa using a3
                have d4 : decide (mv ≤ pv) = false := by simpa using a4
                have s1 : IntKind.i64.wrap ((i : Int) - 1) = (i : Int) - 1 := IntWalk.i64_in _ (by omega)
                have s2 : 0 ≤ (i : Int) - 1 := by omega
                have s3 : ((i : Int) - 1).toNat = i - 1 := by omega
                have s4 : (i : Int) - 1 < ms.length := by omega
                go_wp2_with fail
                refine region_later (by kernel_rfl) (by kernel_rfl) ?_
                repeat (go_big_quiet_step (fail))
                refine wpQuiet_nil ?_
                rintro _ ⟨z4, rfl⟩
                go_wp2_with fail
                clear s1 s2 s3 s4
                go_roundg (ms.length - (i + 1))
                case measure => omega
                case rel => exact ⟨i + 1, hlti, Nat.le_refl _, by go_num, by (repeat (first | (with_reducible exact LaterOf.refl _) | (with_reducible refine LaterOf.alloc ?_ _) | (with_reducible refine LaterOf.drew ?_) | (with_reducible refine LaterOf.drewN ?_ _) | (with_reducible refine LaterOf.later ?_ _) | (with_reducible refine LaterOf.setCell ?_ (by first | exact Nat.le_refl _ | (simp; done) | omega | (simp; omega)) _))), by rw [HM.out.1, HE.out, Bool.true_and]⟩
            · have hil : i = ms.length := by omega
              rw [hil, all_range_end] at hm
              have HM := Lib.hid hm
              clear hm hil
              go_wp2_with fail
              go_roundg (L.length - (k + 1))
              case measure => omega
              case rel => exact ⟨k + 1, hlt, Nat.le_refl _, by go_num, by (repeat (first | (with_reducible exact LaterOf.refl _) | (with_reducible refine LaterOf.alloc ?_ _) | (with_reducible refine LaterOf.drew ?_) | (with_reducible refine LaterOf.drewN ?_ _) | (with_reducible refine LaterOf.later ?_ _) | (with_reducible refine LaterOf.setCell ?_ (by first | exact Nat.le_refl _ | (simp; done) | omega | (simp; omega)) _))), by rw [HA.out.1, HM.out, Bool.true_and]⟩
        · have hkl : k = L.length := by omega
          rw [hkl, List.drop_length, List.all_nil] at hall
          have HA := Lib.hid hall
          clear hall hkl
          go_wp2_with fail
          go_returns
          exact ⟨by rw [HB.out, HA.out]; rfl, by (repeat (first | (with_reducible exact LaterOf.refl _) | (with_reducible refine LaterOf.alloc ?_ _) | (with_reducible refine LaterOf.drew ?_) | (with_reducible refine LaterOf.drewN ?_ _) | (with_reducible refine LaterOf.later ?_ _) | (with_reducible refine LaterOf.setCell ?_ (by first | exact Nat.le_refl _ | (simp; done) | omega | (simp; omega)) _)))⟩
end Go.Proofs.Ytdcncalcncomoaa
