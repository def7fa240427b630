/- Layer 52 (the reference): has, ready, follows. -/
import Derived.Test.YtdcncalcncomoaaSchP2
import Derived.Test.YtdcncalcncomoaaSch28
namespace Go.Proofs.Ytdcncalcncomoaa
open Go.RowKit Go.Sort
set_option linter.unusedVariables false
attribute [local go_sem ↓] Go.wp_at_zero Go.wp_at_succ

set_option maxHeartbeats 1000000 in
theorem refHas_any (B : Option Addr) (d : Nat) (l : List SlotR) (j : Int) (w : World) (hl : IsSlots w B d l) (hll : l.length < 4611686018427387904) :
    Gives Try.prog 31 #[.slice B l.length d, .int .i64 j] w (.bool (l.any fun y => y.job == j)) := by
  apply Gives.ret
  have H := Lib.hid hl
  clear hl
  obtain ⟨v, hv⟩ : ∃ v, v = l.any fun y => y.job == j := ⟨_, rfl⟩
  rw [← hv]
  have HV := Lib.hid hv
  clear hv
  go_enter Try.func31, Try.ntmps31
  go_wp2_with fail
  go_loopg [5] l.length (fun gas s5 wr => ∃ k : Nat, k ≤ l.length ∧ l.length - k ≤ gas ∧ s5 = .int .i64 k ∧ LaterOf w wr ∧ v = (l.drop k).any fun y => y.job == j)
  case atStart => exact ⟨0, by omega, by omega, rfl, by (repeat (first | (with_reducible exact LaterOf.refl _) | (with_reducible refine LaterOf.alloc ?_ _) | (with_reducible refine LaterOf.drew ?_) | (with_reducible refine LaterOf.drewN ?_ _) | (with_reducible refine LaterOf.later ?_ _) | (with_reducible refine LaterOf.setCell ?_ (by first | exact Nat.le_refl _ | (simp; done) | omega | (simp; omega)) _))), by rw [List.drop_zero]; exact HV.out⟩
  case round =>
    obtain ⟨k, hk, hgas, rfl, ⟨z, rfl⟩, hany⟩ := hrel
    by_cases hlt : k < l.length
    · rw [any_drop _ hlt] at hany
      have hrl := H.out.of (w' := z.wd) (by (repeat (first | (with_reducible exact SinceOf.refl _) | (with_reducible assumption) | (with_reducible refine SinceOf.alloc ?_ _) | (with_reducible refine SinceOf.drew ?_) | (with_reducible refine SinceOf.drewN ?_ _) | (with_reducible refine SinceOf.later ?_ _) | (with_reducible refine SinceOf.further ?_ _) | (with_reducible refine SinceOf.setCell ?_ (by first | exact Nat.le_refl _ | (simp; done) | omega | (simp; omega)) _))))
      obtain ⟨g, off, rfl, hr⟩ := hrl.at_ (by omega)
      have hO := hr.there
      have s0 := hr.s0 k hlt
      generalize l[k].job = xj at *
      clear hr hrl
      by_cases he : xj = j
      · have e : (xj == j) = true := by simpa using he
        rw [e, Bool.true_or] at hany
        have HA := Lib.hid hany
        clear hany he
        go_wp2_with fail
        go_returns
        exact ⟨by rw [HA.out]; rfl, by (repeat (first | (with_reducible exact LaterOf.refl _) | (with_reducible refine LaterOf.alloc ?_ _) | (with_reducible refine LaterOf.drew ?_) | (with_reducible refine LaterOf.drewN ?_ _) | (with_reducible refine LaterOf.later ?_ _) | (with_reducible refine LaterOf.setCell ?_ (by first | exact Nat.le_refl _ | (simp; done) | omega | (simp; omega)) _)))⟩
      · have e : (xj == j) = false := by simpa using he
        rw [e, Bool.false_or] at hany
        have HA := Lib.hid hany
        clear hany he
        go_wp2_with fail
        go_roundg (l.length - (k + 1))
        case measure => omega
        case rel => exact ⟨k + 1, hlt, Nat.le_refl _, by go_num, by (repeat (first | (with_reducible exact LaterOf.refl _) | (with_reducible refine LaterOf.alloc ?_ _) | (with_reducible refine LaterOf.drew ?_) | (with_reducible refine LaterOf.drewN ?_ _) | (with_reducible refine LaterOf.later ?_ _) | (with_reducible refine LaterOf.setCell ?_ (by first | exact Nat.le_refl _ | (simp; done) | omega | (simp; omega)) _))), HA.out⟩
    · have hkl : k = l.length := by omega
      rw [hkl, List.drop_length] at hany
      have HA := Lib.hid hany
      clear hany hkl
      go_wp2_with fail
      go_returns
      exact ⟨by rw [HA.out]; rfl, by (repeat (first | (with_reducible exact LaterOf.refl _) | (with_reducible refine LaterOf.alloc ?_ _) | (with_reducible refine LaterOf.drew ?_) | (with_reducible refine LaterOf.drewN ?_ _) | (with_reducible refine LaterOf.later ?_ _) | (with_reducible refine LaterOf.setCell ?_ (by first | exact Nat.le_refl _ | (simp; done) | omega | (simp; omega)) _)))⟩
set_option maxRecDepth 100000 in
set_option maxHeartbeats 4000000 in
theorem refReady_any (s : ShopR) (A : Option Addr) (c : Nat) (L : List JobR) (a : SlotR) (q : Nat) (w : World) (hs : IsShop w s) (h : IsJobs w A c L) (gp : GoodP s L) (hm : 0 ≤ a.mach ∧ a.mach < s.cals.length) (ha : 0 ≤ a.job ∧ a.job < L.length) (hq : q < s.rows.length) :
    Gives Try.prog 36 #[shopV s, .slice A L.length c, slotV a, .int .i64 q] w (.tuple #[.int .i64 (finishAt s a.mach a.stop (get2 s.rows (jobAt L a.job).cls.toNat q)).1, .bool ((finishAt s a.mach a.stop (get2 s.rows (jobAt L a.job).cls.toNat q)).2 == 0)]) := by
  apply Gives.ret
  obtain ⟨aj, am, a1, a2⟩ := a
  simp only at hm ha
  obtain ⟨m, rfl⟩ : ∃ m : Nat, am = m := ⟨am.toNat, by omega⟩
  obtain ⟨ja, rfl⟩ : ∃ m : Nat, aj = m := ⟨aj.toNat, by omega⟩
  have hm' : m < s.cals.length := by omega
  have ha' : ja < L.length := by omega
  have hcl := hs.cals.len
  have hrl := hs.rows.len
  have hll := h.len
  obtain ⟨ca0, ca1⟩ := gp.cls _ (List.getElem_mem ha')
  obtain ⟨p, hp⟩ : ∃ p : Nat, L[ja].cls = p := ⟨L[ja].cls.toNat, by omega⟩
  have hp' : p < s.rows.length := by omega
  have e2 : get2 s.rows (jobAt L ja).cls.toNat q = get2 s.rows p q := by rw [jobAt_at ha', hp]; rfl
  have hz := gp.sz p hp'
  have hrw := hs.rows.all _ (List.getElem_mem hp')
  obtain ⟨gc, oc, hAc, hrc⟩ := hs.cals.row.at_ (by omega)
  obtain ⟨gj, oj, hAj, hrj⟩ := h.row.at_ (by omega)
  obtain ⟨gr, og, hAr, hrr⟩ := hs.rows.row.at_ (by omega)
  obtain ⟨gx, ox, hAx, hrx⟩ := hrw.1.at_ (by omega)
  have hOc := hrc.there
  have hOj := hrj.there
  have hOr := hrr.there
  have hOx := hrx.there
  have c0 := hrc.k0 m hm'
  have c1 := hrc.k1 m hm'
  have c2 := hrc.k2 m hm'
  have j2 := hrj.j2 ja ha'
  have r0 := hrr.r0 p hp'
  have x0 := hrx.n0 q (by omega)
  rw [← get2_at hp' (by omega)] at x0
  rw [hp] at j2
  rw [hAx, hz] at r0
  have e1 : finishAt s m a2 (get2 s.rows p q) = finishV s.cals[m].P s.cals[m].S s.cals[m].D a2 (get2 s.rows p q) := by unfold finishAt; rw [calAt_at hm']
  rw [e2, e1]
  generalize get2 s.rows p q = st at *
  have W := fun W hW => refFinish_any (w := W) a2 st ((hs.cals.all _ (List.getElem_mem hm')).of hW)
  simp only [pairV] at W
  generalize finishV s.cals[m].P s.cals[m].S s.cals[m].D a2 st = wk at *
  obtain ⟨w1, w2⟩ := wk
  generalize s.cals[m] = K at *
  generalize s.rows[p].c = cx at *
  obtain ⟨sA, sc, cals, sB, sd, R, most⟩ := s
  simp only at *
  subst hAc hAj hAr
  clear hs h gp hrc hrj hrr hrx hrw hAx e1 e2 hp hz
  go_enter Try.func36, Try.ntmps36
  go_wp2_with fail
  refine region_later (by kernel_rfl) (by kernel_rfl) ?_
  repeat (go_big_quiet_step ((with_reducible refine Gives.later (W _ (by (repeat (first | (with_reducible exact SinceOf.refl _) | (with_reducible assumption) | (with_reducible refine SinceOf.alloc ?_ _) | (with_reducible refine SinceOf.drew ?_) | (with_reducible refine SinceOf.drewN ?_ _) | (with_reducible refine SinceOf.later ?_ _) | (with_reducible refine SinceOf.further ?_ _) | (with_reducible refine SinceOf.setCell ?_ (by first | exact Nat.le_refl _ | (simp; done) | omega | (simp; omega)) _))))))))
  refine wpQuiet_nil ?_
  rintro _ ⟨x1, rfl⟩
  go_wp2_with fail
  go_returns
  exact ⟨by simp [*], by (repeat (first | (with_reducible exact LaterOf.refl _) | (with_reducible refine LaterOf.alloc ?_ _) | (with_reducible refine LaterOf.drew ?_) | (with_reducible refine LaterOf.drewN ?_ _) | (with_reducible refine LaterOf.later ?_ _) | (with_reducible refine LaterOf.setCell ?_ (by first | exact Nat.le_refl _ | (simp; done) | omega | (simp; omega)) _)))⟩
set_option maxRecDepth 100000 in
set_option maxHeartbeats 4000000 in
theorem refFollows_any (s : ShopR) (A : Option Addr) (c : Nat) (L : List JobR) (a b : SlotR) (w : World) (hs : IsShop w s) (h : IsJobs w A c L) (gp : GoodP s L) (hm : 0 ≤ a.mach ∧ a.mach < s.cals.length) (ha : 0 ≤ a.job ∧ a.job < L.length) (hb : 0 ≤ b.job ∧ b.job < L.length) :
    Gives Try.prog 59 #[shopV s, .slice A L.length c, slotV a, slotV b] w (.bool (followsR s L a b)) := by
  apply Gives.ret
  obtain ⟨aj, am, a1, a2⟩ := a
  obtain ⟨bj, bm, b1, b2⟩ := b
  simp only at hm ha hb
  obtain ⟨m, rfl⟩ : ∃ m : Nat, am = m := ⟨am.toNat, by omega⟩
  obtain ⟨ja, rfl⟩ : ∃ m : Nat, aj = m := ⟨aj.toNat, by omega⟩
  obtain ⟨jb, rfl⟩ : ∃ m : Nat, bj = m := ⟨bj.toNat, by omega⟩
  have hm' : m < s.cals.length := by omega
  have ha' : ja < L.length := by omega
  have hb' : jb < L.length := by omega
  have hfb : followsR s L ⟨ja, m, a1, a2⟩ ⟨jb, bm, b1, b2⟩ = (!decide (b1 < a2) && decide (setupAt s L ja jb ≤ (workAt s m a2 b1).1)) := rfl
  by_cases hlt : b1 < a2
  · rw [hfb, show decide (b1 < a2) = true from by simpa using hlt]
    clear hs h gp hfb
    go_enter Try.func59, Try.ntmps59
    go_wp2_with fail
    go_returns
    exact ⟨by simp, by (repeat (first | (with_reducible exact LaterOf.refl _) | (with_reducible refine LaterOf.alloc ?_ _) | (with_reducible refine LaterOf.drew ?_) | (with_reducible refine LaterOf.drewN ?_ _) | (with_reducible refine LaterOf.later ?_ _) | (with_reducible refine LaterOf.setCell ?_ (by first | exact Nat.le_refl _ | (simp; done) | omega | (simp; omega)) _)))⟩
  · have hlt' : decide (b1 < a2) = false := by simpa using hlt
    rw [hfb, hlt']
    have hcl := hs.cals.len
    have hrl := hs.rows.len
    have hll := h.len
    have W := fun W hW => refWork_any (w := W) a2 b1 ((hs.cals.all _ (List.getElem_mem hm')).of hW)
    have e1 : workAt s m a2 b1 = workV s.cals[m].P s.cals[m].S s.cals[m].D a2 b1 := by unfold workAt; rw [calAt_at hm']
    obtain ⟨ca0, ca1⟩ := gp.cls _ (List.getElem_mem ha')
    obtain ⟨cb0, cb1⟩ := gp.cls _ (List.getElem_mem hb')
    have e2 : setupAt s L ja jb = get2 s.rows L[ja].cls.toNat L[jb].cls.toNat := by unfold setupAt; rw [jobAt_at ha', jobAt_at hb']
    obtain ⟨p, hp⟩ : ∃ p : Nat, L[ja].cls = p := ⟨L[ja].cls.toNat, by omega⟩
    obtain ⟨q, hq⟩ : ∃ q : Nat, L[jb].cls = q := ⟨L[jb].cls.toNat, by omega⟩
    have hp' : p < s.rows.length := by omega
    have hq' : q < s.rows.length := by omega
    rw [hp, hq, Int.toNat_natCast, Int.toNat_natCast] at e2
    have hz := gp.sz p hp'
    have hrw := hs.rows.all _ (List.getElem_mem hp')
    obtain ⟨gc, oc, hAc, hrc⟩ := hs.cals.row.at_ (by omega)
    obtain ⟨gj, oj, hAj, hrj⟩ := h.row.at_ (by omega)
    obtain ⟨gr, og, hAr, hrr⟩ := hs.rows.row.at_ (by omega)
    obtain ⟨gx, ox, hAx, hrx⟩ := hrw.1.at_ (by omega)
    have hOc := hrc.there
    have hOj := hrj.there
    have hOr := hrr.there
    have hOx := hrx.there
    have c0 := hrc.k0 m hm'
    have c1 := hrc.k1 m hm'
    have c2 := hrc.k2 m hm'
    have j2 := hrj.j2 ja ha'
    have i2 := hrj.j2 jb hb'
    have r0 := hrr.r0 p hp'
    have x0 := hrx.n0 q (by omega)
    rw [← get2_at hp' (by omega)] at x0
    rw [hp] at j2
    rw [hq] at i2
    rw [hAx, hz] at r0
    rw [e2, e1]
    simp only [pairV] at W
    generalize get2 s.rows p q = st at *
    generalize workV s.cals[m].P s.cals[m].S s.cals[m].D a2 b1 = wk at *
    obtain ⟨w1, w2⟩ := wk
    generalize s.cals[m] = K at *
    generalize s.rows[p].c = cx at *
    obtain ⟨sA, sc, cals, sB, sd, R, most⟩ := s
    simp only at *
    subst hAc hAj hAr
    clear hfb hs h gp hrc hrj hrr hrx hrw hAx e1 e2 hp hq hz
    go_enter Try.func59, Try.ntmps59
    go_wp2_with fail
    refine region_later (by kernel_rfl) (by kernel_rfl) ?_
    repeat (go_big_quiet_step ((with_reducible refine Gives.later (W _ (by (repeat (first | (with_reducible exact SinceOf.refl _) | (with_reducible assumption) | (with_reducible refine SinceOf.alloc ?_ _) | (with_reducible refine SinceOf.drew ?_) | (with_reducible refine SinceOf.drewN ?_ _) | (with_reducible refine SinceOf.later ?_ _) | (with_reducible refine SinceOf.further ?_ _) | (with_reducible refine SinceOf.setCell ?_ (by first | exact Nat.le_refl _ | (simp; done) | omega | (simp; omega)) _))))))))
    refine wpQuiet_nil ?_
    rintro _ ⟨x1, rfl⟩
    go_wp2_with fail
    refine region_later (by kernel_rfl) (by kernel_rfl) ?_
    repeat (go_big_quiet_step (fail))
    refine wpQuiet_nil ?_
    rintro _ ⟨x2, rfl⟩
    go_wp2_with fail
    go_returns
    exact ⟨by simp [*], by (repeat (first | (with_reducible exact LaterOf.refl _) | (with_reducible refine LaterOf.alloc ?_ _) | (with_reducible refine LaterOf.drew ?_) | (with_reducible refine LaterOf.drewN ?_ _) | (with_reducible refine LaterOf.later ?_ _) | (with_reducible refine LaterOf.setCell ?_ (by first | exact Nat.le_refl _ | (simp; done) | omega | (simp; omega)) _)))⟩
end Go.Proofs.Ytdcncalcncomoaa
