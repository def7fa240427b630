/- Layer 52 (the reference): has, ready, follows. -/
import Derived.Test.YtdcncalcncomoaaSchP2
import Derived.Test.YtdcncalcncomoaaSch28
namespace Go.Proofs.Ytdcncalcncomoaa
open Go.RowKit Go.Sort
set_option linter.unusedVariables false
attribute [local go_sem ↓] Go.wp_at_zero Go.wp_at_succ

set_option maxHeartbeats 1000000 in
theorem refHas_any (B : Option Addr) (d : Nat) (l : List SlotR) (j : Int) (w : World) (hl : IsSlots w B d l) (hll : l.length < 4611686018427387904) :
    Gives Try.prog 31 #[.slice B l.length d, .int .i64 j] w (.bool (l.any fun y => y.job == j)) := by
  apply Gives.ret
  have H := Lib.hid hl
  clear hl
  obtain ⟨v, hv⟩ : ∃ v, v = l.any fun y => y.job == j := ⟨_, rfl⟩
  rw [← hv]
  have HV := Lib.hid hv
  clear hv
  go_enter Try.func31, Try.ntmps31
  go_wp2_with fail
  go_loopg [5] l.length (fun gas s5 wr => ∃ k : Nat, k ≤ l.length ∧ l.length - k ≤ gas ∧ s5 = .int .i64 k ∧ LaterOf w wr ∧ v = (l.drop k).any fun y => y.job == j)
  case atStart => exact ⟨0, by omega, by omega, rfl, by (repeat (first | (with_reducible exact LaterOf.refl _) | (with_reducible refine LaterOf.alloc ?_ _) | (with_reducible refine LaterOf.drew ?_) | (with_reducible refine LaterOf.drewN ?_ _) | (with_reducible refine LaterOf.later ?_ _) | (with_reducible refine LaterOf.setCell ?_ (by first | exact Nat.le_refl _ | (simp; done) | omega | (simp; omega)) _))), by rw [List.drop_zero]; exact HV.out⟩
  case round =>
    obtain ⟨k, hk, hgas, rfl, ⟨z, rfl⟩, hany⟩ := hrel
    by_cases hlt : k < l.length
    · rw [any_drop _ hlt] at hany
      have hrl := H.out.of (w' := z.wd) (by (repeat (first | (with_reducible exact SinceOf.refl _) | (with_reducible assumption) | (with_reducible refine SinceOf.alloc ?_ _) | (with_reducible refine SinceOf.drew ?_) | (with_reducible refine SinceOf.drewN ?_ _) | (with_reducible refine SinceOf.later ?_ _) | (with_reducible refine SinceOf.further ?_ _) | (with_reducible refine SinceOf.setCell ?_ (by first | exact Nat.le_refl _ | (simp; done) | omega | (simp; omega)) _))))
      obtain ⟨g, off, rfl, hr⟩ := hrl.at_ (by omega)
      have hO := hr.there
      have s0 := hr.s0 k hlt
      generalize l[k].job = xj at *
      clear hr hrl
      by_cases he : xj = j
      · have e : (xj == j) = true := by simpa using he
        rw [e, Bool.true_or] at hany
        have HA := Lib.hid hany
        clear hany he
        go_wp2_with fail
        go_returns
        exact ⟨by rw [HA.out]; rfl, by (repeat (first | (with_reducible exact LaterOf.refl _) | (with_reducible refine LaterOf.alloc ?_ _) | (with_reducible refine LaterOf.drew ?_) | (with_reducible refine LaterOf.drewN ?_ _) | (with_reducible refine LaterOf.later ?_ _) | (with_reducible refine LaterOf.setCell ?_ (by first | exact Nat.le_refl _ | (simp; done) | omega | (simp; omega)) _)))⟩
      · have e : (xj == j) = false := by simpa using he
        rw [e, Bool.false_or] at hany
        have HA := Lib.hid hany
        clear hany he
        go_wp2_with fail
        go_roundg (l.length - (k + 1))
        case measure => omega
        case rel => exact ⟨k + 1, hlt, Nat.le_refl _, by go_num, by (repeat (first | (with_reducible exact LaterOf.refl _) | (with_reducible refine LaterOf.alloc ?_ _) | (with_reducible refine LaterOf.drew ?_) | (with_reducible refine LaterOf.drewN ?_ _) | (with_reducible refine LaterOf.later ?_ _) | (with_reducible refine LaterOf.setCell ?_ (by first | exact Nat.le_refl _ | (simp; done) | omega | (simp; omega)) _))), HA.out⟩
    · have hkl : k = l.length := by omega
      rw [hkl, List.drop_length] at hany
      have HA := Lib.hid hany
      clear hany hkl
      go_wp2_with fail
      go_returns
      exact ⟨by rw [HA.out]; rfl, by (repeat (first | (with_reducible exact LaterOf.refl _) | (with_reducible refine LaterOf.alloc ?_ _) | (with_reducible refine LaterOf.drew ?_) | (with_reducible refine LaterOf.drewN ?_ _) | (with_reducible refine LaterOf.later ?_ _) | (with_reducible refine LaterOf.setCell ?_ (by first | exact Nat.le_refl _ | (simp; done) | omega | (simp; omega)) _)))⟩
set_option maxRecDepth 100000 in
set_option maxHeartbeats 4000000 in
theorem refReady_any (s : ShopR) (A : Option Addr) (c : Nat) (L : List JobR) (a : SlotR) (q : Nat) (w : World) (hs : IsShop w s) (h : IsJobs w A c L) (gp : GoodP s L) (hm : 0 ≤ a.mach ∧ a.mach < s.cals.length) (ha : 0 ≤ a.job ∧ a.job < L.length) (hq : q < s.rows.length) :
    Gives Try.prog 36 #[shopV s, .slice A L.length c, slotV a, .int .i64 q] w (.tuple #[.int .i64 (finishAt s a.mach a.stop (get2 s.rows (jobAt L a.job).cls.toNat q)).1, .bool ((finishAt s a.mach a.stop (get2 s.rows (jobAt L a.job).cls.toNat q)).2 == 0)]) := by
  apply Gives.ret
  obtain ⟨aj, am, a1, a2⟩ := a
  simp only at hm ha
  obtain ⟨m, rfl⟩ : ∃ m : Nat, am = m := ⟨am.toNat, by omega⟩
  obtain ⟨ja, rfl⟩ : ∃ m : Nat, aj = m := ⟨aj.toNat, by omega⟩
  have hm' : m < s.cals.length := by omega
  have ha' : ja < L.length := by omega
  have hcl := hs.cals.len
  have hrl := hs.rows.len
  have hll := h.len
  obtain ⟨ca0, ca1⟩ := gp.cls _ (List.getElem_mem ha')
  obtain ⟨p, hp⟩ : ∃ p : Nat, L[ja].cls = p := ⟨L[ja].cls.toNat, by omega⟩
  have hp' : p < s.rows.length := by omega
  have e2 : get2 s.rows (jobAt L ja).cls.toNat q = get2 s.rows p q := by rw [jobAt_at ha', hp]; rfl
  have hz := gp.sz p hp'
  have hrw := hs.rows.all _ (List.getElem_mem hp')
  obtain ⟨gc, oc, hAc, hrc⟩ := hs.cals.row.at_ (by omega)
  obtain ⟨gj, oj, hAj, hrj⟩ := h.row.at_ (by omega)
  obtain ⟨gr, og, hAr, hrr⟩ := hs.rows.row.at_ (by omega)
  obtain ⟨gx, ox, hAx, hrx⟩ := hrw.1.at_ (by omega)
  have hOc := hrc.there
  have hOj := hrj.there
  have hOr := hrr.there
  have hOx := hrx.there
  have c0 := hrc.k0 m hm'
  have c1 := hrc.k1 m hm'
  have c2 := hrc.k2 m hm'
  have j2 := hrj.j2 ja ha'
  have r0 := hrr.r0 p hp'
  have x0 := hrx.n0 q (by omega)
  rw [← get2_at hp' (by omega)] at x0
  rw [hp] at j2
  rw [hAx, hz] at r0
  have e1 : finishAt s m a2 (get2 s.rows p q) = finishV s.cals[m].P s.cals[m].S s.cals[m].D a2 (get2 s.rows p q) := by unfold finishAt; rw [calAt_at hm']
  rw [e2, e1]
  generalize get2 s.rows p q = st at *
  have W := fun W hW => refFinish_any (w := W) a2 st ((hs.cals.all _ (List.getElem_mem hm')).of hW)
  simp only [pairV] at W
  generalize finishV s.cals[m].P s.cals[m].S s.cals[m].D a2 st = wk at *
  obtain ⟨w1, w2⟩ := wk
  generalize s.cals[m] = K at *
  generalize s.rows[p].c = cx at *
  obtain ⟨sA, sc, cals, sB, sd, R, most⟩ := s
  simp only at *
  subst hAc hAj hAr
  clear hs h gp hrc hrj hrr hrx hrw hAx e1 e2 hp hz
  go_enter Try.func36, Try.ntmps36
  go_wp2_with fail
  refine region_later (by kernel_rfl) (by kernel_rfl) ?_
  repeat (go_big_quiet_step ((with_reducible refine Gives.later (W _ (by (repeat (first | (with_reducible exact SinceOf.refl _) | (with_reducible assumption) | (with_reducible refine SinceOf.alloc ?_ _) | (with_reducible refine SinceOf.drew ?_) | (with_reducible refine SinceOf.drewN ?_ _) | (with_reducible refine SinceOf.later ?_ _) | (with_reducible refine SinceOf.further ?_ _) | (with_reducible refine SinceOf.setCell ?_ (by first | exact Nat.le_refl _ | (simp; done) | omega | (simp; omega)) _))))))))
  refine wpQuiet_nil ?_
  rintro _ ⟨x1, rfl⟩
  go_wp2_with fail
  go_returns
  exact ⟨by simp [*], by (repeat (first | (with_reducible exact LaterOf.refl _) | (with_reducible refine LaterOf.alloc ?_ _) | (with_reducible refine LaterOf.drew ?_) | (with_reducible refine LaterOf.drewN ?_ _) | (with_reducible refine LaterOf.later ?_ _) | (with_reducible refine LaterOf.setCell ?_ (by first | exact Nat.le_refl _ | (simp; done) | omega | (simp; omega)) _)))⟩
set_option maxRecDepth 100000 in
set_option maxHeartbeats 4000000 in
theorem refFollows_any (s : ShopR) (A : Option Addr) (c : Nat) (L : List JobR) (a b : SlotR) (w : World) (hs : IsShop w s) (h : IsJobs w A c L) (gp : GoodP s L) (hm : 0 ≤ a.mach ∧ a.mach < s.cals.length) (ha : 0 ≤ a.job ∧ a.job < L.length) (hb : 0 ≤ b.job ∧ b.job < L.length) :
    Gives Try.prog 59 #[shopV s, .slice A L.length c, slotV a, slotV b] w (.bool (followsR s L a b)) := by
  apply Gives.ret
  obtain ⟨aj, am, a1, a2⟩ := a
  obtain ⟨bj, bm, b1, b2⟩ := b
  simp only at hm ha hb
  obtain ⟨m, rfl⟩ : ∃ m : Nat, am = m := ⟨am.toNat, by omega⟩
  obtain ⟨ja, rfl⟩ : ∃ m : Nat, aj = m := ⟨aj.toNat, by omega⟩
  obtain ⟨jb, rfl⟩ : ∃ m : Nat, bj = m := ⟨bj.toNat, by omega⟩
  have hm' : m < s.cals.length := by omega
  have ha' : ja < L.length := by omega
  have hb' : jb < L.length := by omega
  have hfb : followsR s L ⟨ja, m, a1, a2⟩ ⟨jb, bm, b1, b2⟩ = (!decide (b1 < a2) && decide (setupAt s L ja jb ≤ (workAt s m a2 b1).1)) := rfl
  by_cases hlt : b1 < a2
  · rw [hfb, show decide (b1 < a2) = true from by simpa using hlt]
    clear hs h gp hfb
    go_enter Try.func59, Try.ntmps59
    go_wp2_with fail
    go_returns
    exact ⟨by simp, by (repeat (first | (with_reducible exact LaterOf.refl _) | (with_reducible refine LaterOf.alloc ?_ _) | (with_reducible refine LaterOf.drew ?_) | (with_reducible refine LaterOf.drewN ?_ _) | (with_reducible refine LaterOf.later ?_ _) | (with_reducible refine LaterOf.setCell ?_ (by first | exact Nat.le_refl _ | (simp; done) | omega | (simp; omega)) _)))⟩
  · have hlt' : decide (b1 < a2) = false := by simpa using hlt
    rw [hfb, hlt']
    have hcl := hs.cals.len
    have hrl := hs.rows.len
    have hll := h.len
    have W := fun W hW => refWork_any (w := W) a2 b1 ((hs.cals.all _ (List.getElem_mem hm')).of hW)
    have e1 : workAt s m a2 b1 = workV s.cals[m].P s.cals[m].S s.cals[m].D a2 b1 := by unfold workAt; rw [calAt_at hm']
    obtain ⟨ca0, ca1⟩ := gp.cls _ (List.getElem_mem ha')
    obtain ⟨cb0, cb1⟩ := gp.cls _ (List.getElem_mem hb')
    have e2 : setupAt s L ja jb = get2 s.rows L[ja].cls.toNat L[jb].cls.toNat := by unfold setupAt; rw [jobAt_at ha', jobAt_at hb']
    obtain ⟨p, hp⟩ : ∃ p : Nat, L[ja].cls = p := ⟨L[ja].cls.toNat, by omega⟩
    obtain ⟨q, hq⟩ : ∃ q : Nat, L[jb].cls = q := ⟨L[jb].cls.toNat, by omega⟩
    have hp' : p < s.rows.length := by omega
    have hq' : q < s.rows.length := by omega
    rw [hp, hq, Int.toNat_natCast, Int.toNat_natCast] at e2
    have hz := gp.sz p hp'
    have hrw := hs.rows.all _ (List.getElem_mem hp')
    obtain ⟨gc, oc, hAc, hrc⟩ := hs.cals.row.at_ (by omega)
    obtain ⟨gj, oj, hAj, hrj⟩ := h.row.at_ (by omega)
    obtain ⟨gr, og, hAr, hrr⟩ := hs.rows.row.at_ (by omega)
    obtain ⟨gx, ox, hAx, hrx⟩ := hrw.1.at_ (by omega)
    have hOc := hrc.there
    have hOj := hrj.there
    have hOr := hrr.there
    have hOx := hrx.there
    have c0 := hrc.k0 m hm'
    have c1 := hrc.k1 m hm'
    have c2 := hrc.k2 m hm'
    have j2 := hrj.j2 ja ha'
    have i2 := hrj.j2 jb hb'
    have r0 := hrr.r0 p hp'
    have x0 := hrx.n0 q (by omega)
    rw [← get2_at hp' (by omega)] at x0
    rw [hp] at j2
    rw [hq] at i2
    rw [hAx, hz] at r0
    rw [e2, e1]
    simp only [pairV] at W
    generalize get2 s.rows p q = st at *
    generalize workV s.cals[m].P s.cals[m].S s.cals[m].D a2 b1 = wk at *
    obtain ⟨w1, w2⟩ := wk
    generalize s.cals[m] = K at *
    generalize s.rows[p].c = cx at *
    obtain ⟨sA, sc, cals, sB, sd, R, most⟩ := s
    simp only at *
    subst hAc hAj hAr
    clear hfb hs h gp hrc hrj hrr hrx hrw hAx e1 e2 hp hq hz
    go_enter Try.func59, Try.ntmps59
    go_wp2_with fail
    refine region_later (by kernel_rfl) (by kernel_rfl) ?_
    repeat (go_big_quiet_step ((with_reducible refine Gives.later (W _ (by (repeat (first | (with_reducible exact SinceOf.refl _) | (with_reducible assumption) | (with_reducible refine SinceOf.alloc ?_ _) | (with_reducible refine SinceOf.drew ?_) | (with_reducible refine SinceOf.drewN ?_ _) | (with_reducible refine SinceOf.later ?_ _) | (with_reducible refine SinceOf.further ?_ _) | (with_reducible refine SinceOf.setCell ?_ (by first | exact Nat.le_refl _ | (simp; done) | omega | (simp; omega)) _))))))))
    refine wpQuiet_nil ?_
    rintro _ ⟨x1, rfl⟩
    go_wp2_with fail
    refine region_later (by kernel_rfl) (by kernel_rfl) ?_
    repeat (go_big_quiet_step (fail))
    refine wpQuiet_nil ?_
    rintro _ ⟨x2, rfl⟩
    go_wp2_with fail
    go_returns
    exact ⟨by simp [*], by (repeat (first | (with_reducible exact LaterOf.refl _) | (with_reducible refine LaterOf.alloc ?_ _) | (with_reducible refine LaterOf.drew ?_) | (with_reducible refine LaterOf.drewN ?_ _) | (with_reducible refine LaterOf.later ?_ _) | (with_reducible refine LaterOf.setCell ?_ (by first | exact Nat.le_refl _ | (simp; done) | omega | (simp; omega)) _)))⟩
end Go.Proofs.Ytdcncalcncomoaa
/- Layer 52 (the reference): fits. -/
namespace Go.Proofs.Ytdcncalcncomoaa
open Go.RowKit Go.Sort
set_option linter.unusedVariables false
attribute [local go_sem ↓] Go.wp_at_zero Go.wp_at_succ

set_option maxRecDepth 100000 in
set_option maxHeartbeats 16000000 in
theorem refFits_any (s : ShopR) (A : Option Addr) (c : Nat) (L : List JobR) (B : Option Addr) (d : Nat) (l : List SlotR) (x : SlotR) (w : World) (hs : IsShop w s) (h : IsJobs w A c L) (gp : GoodP s L) (hl : IsSlots w B d l) (hll : l.length < 4611686018427387904) (hn : NamedS s L l) :
    Gives Try.prog 34 #[shopV s, .slice A L.length c, .slice B l.length d, slotV x] w (.int .i64 (slotR s L l x)) := by
  apply Gives.ret
  have hcl := hs.cals.len
  have hrl := hs.rows.len
  have hjl := h.len
  have hni := nameB_iff (s := s) (L := L) (x := x)
  by_cases hnt : nameB s L x = true
  rotate_left 1
  · have hf : slotR s L l x = 6 := by unfold slotR; rw [if_pos (by simpa using hnt)]
    rw [hf]
    have hcase : (x.job < 0) ∨ (¬ x.job < 0 ∧ (L.length : Int) ≤ x.job) ∨ (¬ x.job < 0 ∧ ¬ (L.length : Int) ≤ x.job ∧ x.mach < 0) ∨ (¬ x.job < 0 ∧ ¬ (L.length : Int) ≤ x.job ∧ ¬ x.mach < 0 ∧ (s.cals.length : Int) ≤ x.mach) := by
      rw [hni] at hnt; omega
    obtain ⟨xj, xm, xs, xe⟩ := x
    obtain ⟨sA, sc, cals, sB, sd, R, most⟩ := s
    simp only at hcase hcl hrl
    clear hs h gp hl hn hnt hni hf
    rcases hcase with e0 | ⟨e0, e1⟩ | ⟨e0, e1, e2⟩ | ⟨e0, e1, e2, e3⟩
    all_goals
      go_enter Try.func34, Try.ntmps34
      go_wp2_with fail
      go_returns
      exact ⟨rfl, by (repeat (first | (with_reducible exact LaterOf.refl _) | (with_reducible refine LaterOf.alloc ?_ _) | (with_reducible refine LaterOf.drew ?_) | (with_reducible refine LaterOf.drewN ?_ _) | (with_reducible refine LaterOf.later ?_ _) | (with_reducible refine LaterOf.setCell ?_ (by first | exact Nat.le_refl _ | (simp; done) | omega | (simp; omega)) _)))⟩
  · obtain ⟨hxj, hxm⟩ := hni.1 hnt
    have hse : slotR s L l x = if l.any (fun y => y.job == x.job) = true then 7 else if (jobAt L x.job).ms.any (fun m => m == x.mach) = false then 25 else if x.start < (jobAt L x.job).rel then 22 else if shiftB s L x = false then 26 else if l.any (clashR s L x) = true then 27 else 0 := by
      unfold slotR; rw [if_neg (by rw [hnt]; simp)]
    rw [hse]
    clear hse hni
    have FO1 := fun (y : SlotR) (hy : 0 ≤ y.job ∧ y.job < L.length) W (hW : SinceOf w W) => refFollows_any s A c L x y W (hs.of hW) (h.of hW) gp hxm hxj hy
    have FO2 := fun (y : SlotR) (hy : 0 ≤ y.job ∧ y.job < L.length) (hm : y.mach = x.mach) W (hW : SinceOf w W) => refFollows_any s A c L y x W (hs.of hW) (h.of hW) gp (by rw [hm]; exact hxm) hy hxj
    have hcr : ∀ y : SlotR, clashR s L x y = ((y.mach == x.mach) && (!followsR s L x y && !followsR s L y x)) := fun _ => rfl
    obtain ⟨jn, hjn⟩ : ∃ m : Nat, x.job = m := ⟨x.job.toNat, by omega⟩
    obtain ⟨mn, hmn⟩ : ∃ m : Nat, x.mach = m := ⟨x.mach.toNat, by omega⟩
    have hj' : jn < L.length := by omega
    have hm' : mn < s.cals.length := by omega
    have ej : jobAt L x.job = L[jn] := by rw [hjn]; exact jobAt_at hj'
    have em : calAt s x.mach = s.cals[mn] := by rw [hmn]; exact calAt_at hm'
    have hsb : shiftB s L x = (openV s.cals[mn].P s.cals[mn].S s.cals[mn].D x.start && ((finishV s.cals[mn].P s.cals[mn].S s.cals[mn].D x.start L[jn].dur).2 == 0 && (finishV s.cals[mn].P s.cals[mn].S s.cals[mn].D x.start L[jn].dur).1 == x.stop)) := by
      unfold shiftB openAt finishAt; rw [ej, em]
    rw [ej, hsb]
    have hka := hs.cals.all _ (List.getElem_mem hm')
    have hja := h.all _ (List.getElem_mem hj')
    have FI := fun W hW => refFinish_any (w := W) x.start L[jn].dur (hka.of hW)
    have OP := fun W hW => refOpenAt_any (w := W) x.start (hka.of hW)
    simp only [pairV] at FI
    obtain ⟨gc, oc, hAc, hrc⟩ := hs.cals.row.at_ (by omega)
    obtain ⟨gj, oj, hAj, hrj⟩ := h.row.at_ (by omega)
    have hOc := hrc.there
    have hOj := hrj.there
    have c0 := hrc.k0 mn hm'
    have c1 := hrc.k1 mn hm'
    have c2 := hrc.k2 mn hm'
    have j0 := hrj.j0 jn hj'
    have j1 := hrj.j1 jn hj'
    have j2 := hrj.j2 jn hj'
    have j3 := hrj.j3 jn hj'
    have j4 := hrj.j4 jn hj'
    have j5 := hrj.j5 jn hj'
    have hjm := hja.1
    have hjml := hja.2
    generalize L[jn] = J at *
    generalize s.cals[mn] = K at *
    generalize finishV K.P K.S K.D x.start J.dur = fv at *
    generalize openV K.P K.S K.D x.start = ov at *
    obtain ⟨fe, fr⟩ := fv
    obtain ⟨q3, hq3⟩ : ∃ q, q = l.any (fun y => y.job == x.job) := ⟨_, rfl⟩
    obtain ⟨q4, hq4⟩ : ∃ q, q = J.ms.any (fun m => m == x.mach) := ⟨_, rfl⟩
    obtain ⟨q5, hq5⟩ : ∃ q, q = l.any (clashR s L x) := ⟨_, rfl⟩
    obtain ⟨v, hv⟩ : ∃ v : Int, v = (if l.any (fun y => y.job == x.job) = true then 7 else if J.ms.any (fun m => m == x.mach) = false then 25 else if x.start < J.rel then 22 else if (ov && (fr == 0 && fe == x.stop)) = false then 26 else if l.any (clashR s L x) = true then 27 else 0) := ⟨_, rfl⟩
    rw [← hv]
    rw [← hq3, ← hq4, ← hq5] at hv
    have e0 : ¬ (jn : Int) < 0 := by omega
    have e1 : ¬ (L.length : Int) ≤ jn := by omega
    have e2 : ¬ (mn : Int) < 0 := by omega
    have e3 : ¬ (s.cals.length : Int) ≤ mn := by omega
    obtain ⟨xj, xm, xs, xe⟩ := x
    obtain ⟨jA, jc, ms, dur, cls, rel, due, ord⟩ := J
    simp only at *
    subst hjn hmn hAj
    have HN := Lib.hid (And.intro hl (And.intro hn (And.intro hjm (And.intro hq3 (And.intro hq4 (And.intro hq5 (And.intro hcr hv)))))))
    obtain ⟨sA, sc, cals, sB, sd, R, most⟩ := s
    simp only at *
    subst hAc
    clear hs h gp hl hn hnt hrc hrj hka hja hjm ej em hsb hv hq3 hq4 hq5 hcr hxj hxm
    go_enter Try.func34, Try.ntmps34
    go_wp2_with fail
    go_loopg [9] l.length (fun gas s9 wr => ∃ k : Nat, k ≤ l.length ∧ l.length - k ≤ gas ∧ s9 = .int .i64 k ∧ LaterOf ((w.alloc (.cells #[.slice (some ⟨gc, oc, none⟩) cals.length sc, .slice sB R.length sd, .int .i64 most] 25)).alloc (.cells #[.int .i64 jn, .int .i64 mn, .int .i64 xs, .int .i64 xe] 46)) wr ∧ q3 = (l.drop k).any (fun y => y.job == (jn : Int)))
    case atStart => exact ⟨0, by omega, by omega, rfl, by (repeat (first | (with_reducible exact LaterOf.refl _) | (with_reducible refine LaterOf.alloc ?_ _) | (with_reducible refine LaterOf.drew ?_) | (with_reducible refine LaterOf.drewN ?_ _) | (with_reducible refine LaterOf.later ?_ _) | (with_reducible refine LaterOf.setCell ?_ (by first | exact Nat.le_refl _ | (simp; done) | omega | (simp; omega)) _))), by rw [List.drop_zero]; exact HN.out.2.2.2.1⟩
    case round =>
      obtain ⟨k, hk, hgas, rfl, ⟨z, rfl⟩, hany⟩ := hrel
      by_cases hlt : k < l.length
      · rw [any_drop _ hlt] at hany
        have hrl' := HN.out.1.of (w' := z.wd) (by (repeat (first | (with_reducible exact SinceOf.refl _) | (with_reducible assumption) | (with_reducible refine SinceOf.alloc ?_ _) | (with_reducible refine SinceOf.drew ?_) | (with_reducible refine SinceOf.drewN ?_ _) | (with_reducible refine SinceOf.later ?_ _) | (with_reducible refine SinceOf.further ?_ _) | (with_reducible refine SinceOf.setCell ?_ (by first | exact Nat.le_refl _ | (simp; done) | omega | (simp; omega)) _))))
        obtain ⟨g, off, rfl, hr⟩ := hrl'.at_ (by omega)
        have hO := hr.there
        have s0 := hr.s0 k hlt
        generalize l[k].job = yj at *
        clear hr hrl' FO1 FO2 FI OP c0 c1 c2 j0 j1 j2 j3 j4 j5
        by_cases he : yj = (jn : Int)
        · have e : (yj == (jn : Int)) = true := by simpa using he
          rw [e, Bool.true_or] at hany
          have HA := Lib.hid hany
          clear hany he
          go_wp2_with fail
          refine region_later (by kernel_rfl) (by kernel_rfl) ?_
          repeat (go_big_quiet_step (fail))
          refine wpQuiet_nil ?_
          rintro _ ⟨z1, rfl⟩
          go_wp2_with fail
          go_returns
          exact ⟨by have := HN.out.2.2.2.2.2.2.2; rw [HA.out] at this; rw [this]; rfl, by (repeat (first | (with_reducible exact LaterOf.refl _) | (with_reducible refine LaterOf.alloc ?_ _) | (with_reducible refine LaterOf.drew ?_) | (with_reducible refine LaterOf.drewN ?_ _) | (with_reducible refine LaterOf.later ?_ _) | (with_reducible refine LaterOf.setCell ?_ (by first | exact Nat.le_refl _ | (simp; done) | omega | (simp; omega)) _)))⟩
        · have e : (yj == (jn : Int)) = false := by simpa using he
          rw [e, Bool.false_or] at hany
          have HA := Lib.hid hany
          clear hany he
          go_wp2_with fail
          refine region_later (by kernel_rfl) (by kernel_rfl) ?_
          repeat (go_big_quiet_step (fail))
          refine wpQuiet_nil ?_
          rintro _ ⟨z1, rfl⟩
          go_wp2_with fail
          go_roundg (l.length - (k + 1))
          case measure => omega
          case rel => exact ⟨k + 1, hlt, Nat.le_refl _, by go_num, by (repeat (first | (with_reducible exact LaterOf.refl _) | (with_reducible refine LaterOf.alloc ?_ _) | (with_reducible refine LaterOf.drew ?_) | (with_reducible refine LaterOf.drewN ?_ _) | (with_reducible refine LaterOf.later ?_ _) | (with_reducible refine LaterOf.setCell ?_ (by first | exact Nat.le_refl _ | (simp; done) | omega | (simp; omega)) _))), HA.out⟩
      · have hkl : k = l.length := by omega
        rw [hkl, List.drop_length] at hany
        have HA := Lib.hid hany
        clear hany hkl
        go_wp2_with fail
        go_loopg [11, 12] ms.length (fun gas s11 s12 wr => ∃ k : Nat, k ≤ ms.length ∧ ms.length - k ≤ gas ∧ s11 = .bool ((ms.take k).any (fun m => m == (mn : Int))) ∧ s12 = .int .i64 k ∧ LaterOf (z.wd.alloc (.cells #[.slice jA ms.length jc, .int .i64 dur, .int .i64 cls, .int .i64 rel, .int .i64 due, .int .i64 ord] 53)) wr)
        case atStart => exact ⟨0, by omega, by omega, rfl, rfl, by (repeat (first | (with_reducible exact LaterOf.refl _) | (with_reducible refine LaterOf.alloc ?_ _) | (with_reducible refine LaterOf.drew ?_) | (with_reducible refine LaterOf.drewN ?_ _) | (with_reducible refine LaterOf.later ?_ _) | (with_reducible refine LaterOf.setCell ?_ (by first | exact Nat.le_refl _ | (simp; done) | omega | (simp; omega)) _)))⟩
        case round =>
          obtain ⟨i, hi, hgas2, rfl, rfl, ⟨z2, rfl⟩⟩ := hrel
          by_cases hlti : i < ms.length
          · have hta : (ms.take (i + 1)).any (fun m => m == (mn : Int)) = ((ms.take i).any (fun m => m == (mn : Int)) || ms[i] == (mn : Int)) := by rw [List.take_succ_eq_append_getElem hlti, List.any_append]; simp
            have hrl' := HN.out.2.2.1.of (w' := z2.wd) (by (repeat (first | (with_reducible exact SinceOf.refl _) | (with_reducible assumption) | (with_reducible refine SinceOf.alloc ?_ _) | (with_reducible refine SinceOf.drew ?_) | (with_reducible refine SinceOf.drewN ?_ _) | (with_reducible refine SinceOf.later ?_ _) | (with_reducible refine SinceOf.further ?_ _) | (with_reducible refine SinceOf.setCell ?_ (by first | exact Nat.le_refl _ | (simp; done) | omega | (simp; omega)) _))))
            obtain ⟨g, off, rfl, hr⟩ := hrl'.at_ (by omega)
            have hO := hr.there
            have m0 := hr.n0 i hlti
            generalize ms[i] = mi at *
            generalize (ms.take i).any (fun m => m == (mn : Int)) = b at *
            have HT := Lib.hid hta
            clear hr hrl' FO1 FO2 FI OP c0 c1 c2 j0 j1 j2 j3 j4 j5 hta
            cases b
            · go_wp2_with fail
              refine region_later (by kernel_rfl) (by kernel_rfl) ?_
              repeat (go_big_quiet_step (fail))
              refine wpQuiet_nil ?_
              rintro _ ⟨z3, rfl⟩
              go_wp2_with fail
              go_roundg (ms.length - (i + 1))
              case measure => omega
              case rel => exact ⟨i + 1, hlti, Nat.le_refl _, by rw [HT.out]; rfl, by go_num, by (repeat (first | (with_reducible exact LaterOf.refl _) | (with_reducible refine LaterOf.alloc ?_ _) | (with_reducible refine LaterOf.drew ?_) | (with_reducible refine LaterOf.drewN ?_ _) | (with_reducible refine LaterOf.later ?_ _) | (with_reducible refine LaterOf.setCell ?_ (by first | exact Nat.le_refl _ | (simp; done) | omega | (simp; omega)) _)))⟩
            · go_wp2_with fail
              refine region_later (by kernel_rfl) (by kernel_rfl) ?_
              repeat (go_big_quiet_step (fail))
              refine wpQuiet_nil ?_
              rintro _ ⟨z3, rfl⟩
              go_wp2_with fail
              go_roundg (ms.length - (i + 1))
              case measure => omega
              case rel => exact ⟨i + 1, hlti, Nat.le_refl _, by rw [HT.out]; rfl, by go_num, by (repeat (first | (with_reducible exact LaterOf.refl _) | (with_reducible refine LaterOf.alloc ?_ _) | (with_reducible refine LaterOf.drew ?_) | (with_reducible refine LaterOf.drewN ?_ _) | (with_reducible refine LaterOf.later ?_ _) | (with_reducible refine LaterOf.setCell ?_ (by first | exact Nat.le_refl _ | (simp; done) | omega | (simp; omega)) _)))⟩
          · have hil : i = ms.length := by omega
            have hq4 := HN.out.2.2.2.2.1
            rw [hil, List.take_length, ← hq4]
            clear hq4 hil
            have hq3 : q3 = false := by rw [HA.out]; rfl
            subst hq3
            have HV := Lib.hid HN.out.2.2.2.2.2.2.2
            cases q4
            · go_wp2_with fail
              go_returns
              exact ⟨by rw [HV.out]; rfl, by (repeat (first | (with_reducible exact LaterOf.refl _) | (with_reducible refine LaterOf.alloc ?_ _) | (with_reducible refine LaterOf.drew ?_) | (with_reducible refine LaterOf.drewN ?_ _) | (with_reducible refine LaterOf.later ?_ _) | (with_reducible refine LaterOf.setCell ?_ (by first | exact Nat.le_refl _ | (simp; done) | omega | (simp; omega)) _)))⟩
            · by_cases hrel : xs < rel
              · have f1 : decide (xs < rel) = true := by simpa using hrel
                go_wp2_with fail
                go_returns
                exact ⟨by rw [HV.out]; simp [hrel], by (repeat (first | (with_reducible exact LaterOf.refl _) | (with_reducible refine LaterOf.alloc ?_ _) | (with_reducible refine LaterOf.drew ?_) | (with_reducible refine LaterOf.drewN ?_ _) | (with_reducible refine LaterOf.later ?_ _) | (with_reducible refine LaterOf.setCell ?_ (by first | exact Nat.le_refl _ | (simp; done) | omega | (simp; omega)) _)))⟩
              · have f1 : decide (xs < rel) = false := by simpa using hrel
                have HV0 := HV.out
                rw [if_neg (by simp), if_neg (by simp), if_neg hrel] at HV0
                have HV := Lib.hid HV0
                clear hrel HV0
                have hsh : (fr ≠ 0 ∧ (fr == 0) = false) ∨ (ov = false ∧ fr = 0) ∨ (ov = true ∧ fr = 0 ∧ (fe != xe) = true ∧ (fe == xe) = false) ∨ (ov = true ∧ fr = 0 ∧ fe = xe) := by
                  by_cases h0 : fr = 0
                  · cases ov
                    · exact .inr (.inl ⟨rfl, h0⟩)
                    · by_cases h1 : fe = xe
                      · exact .inr (.inr (.inr ⟨rfl, h0, h1⟩))
                      · exact .inr (.inr (.inl ⟨rfl, h0, by simpa using h1, by simpa using h1⟩))
                  · exact .inl ⟨h0, by simpa using h0⟩
                rcases hsh with ⟨t1, t2⟩ | ⟨rfl, rfl⟩ | ⟨rfl, rfl, t1, t2⟩ | ⟨rfl, rfl, rfl⟩
                · have t1 : (fr != 0) = true := by simpa using t1
                  go_wp2_with fail
                  refine region_later (by kernel_rfl) (by kernel_rfl) ?_
                  repeat (go_big_quiet_step ((with_reducible refine Gives.later (FI _ (by (repeat (first | (with_reducible exact SinceOf.refl _) | (with_reducible assumption) | (with_reducible refine SinceOf.alloc ?_ _) | (with_reducible refine SinceOf.drew ?_) | (with_reducible refine SinceOf.drewN ?_ _) | (with_reducible refine SinceOf.later ?_ _) | (with_reducible refine SinceOf.further ?_ _) | (with_reducible refine SinceOf.setCell ?_ (by first | exact Nat.le_refl _ | (simp; done) | omega | (simp; omega)) _))))))))
                  refine wpQuiet_nil ?_
                  rintro _ ⟨z3, rfl⟩
                  go_wp2_with fail
                  refine region_later (by kernel_rfl) (by kernel_rfl) ?_
                  repeat (go_big_quiet_step ((with_reducible refine Gives.later (OP _ (by (repeat (first | (with_reducible exact SinceOf.refl _) | (with_reducible assumption) | (with_reducible refine SinceOf.alloc ?_ _) | (with_reducible refine SinceOf.drew ?_) | (with_reducible refine SinceOf.drewN ?_ _) | (with_reducible refine SinceOf.later ?_ _) | (with_reducible refine SinceOf.further ?_ _) | (with_reducible refine SinceOf.setCell ?_ (by first | exact Nat.le_refl _ | (simp; done) | omega | (simp; omega)) _))))))))
                  refine wpQuiet_nil ?_
                  rintro _ ⟨z4, rfl⟩
                  go_wp2_with fail
                  go_returns
                  exact ⟨by rw [HV.out]; simp [t2], by (repeat (first | (with_reducible exact LaterOf.refl _) | (with_reducible refine LaterOf.alloc ?_ _) | (with_reducible refine LaterOf.drew ?_) | (with_reducible refine LaterOf.drewN ?_ _) | (with_reducible refine LaterOf.later ?_ _) | (with_reducible refine LaterOf.setCell ?_ (by first | exact Nat.le_refl _ | (simp; done) | omega | (simp; omega)) _)))⟩
                · go_wp2_with fail
                  refine region_later (by kernel_rfl) (by kernel_rfl) ?_
                  repeat (go_big_quiet_step ((with_reducible refine Gives.later (FI _ (by (repeat (first | (with_reducible exact SinceOf.refl _) | (with_reducible assumption) | (with_reducible refine SinceOf.alloc ?_ _) | (with_reducible refine SinceOf.drew ?_) | (with_reducible refine SinceOf.drewN ?_ _) | (with_reducible refine SinceOf.later ?_ _) | (with_reducible refine SinceOf.further ?_ _) | (with_reducible refine SinceOf.setCell ?_ (by first | exact Nat.le_refl _ | (simp; done) | omega | (simp; omega)) _))))))))
                  refine wpQuiet_nil ?_
                  rintro _ ⟨z3, rfl⟩
                  go_wp2_with fail
                  refine region_later (by kernel_rfl) (by kernel_rfl) ?_
                  repeat (go_big_quiet_step ((with_reducible refine Gives.later (OP _ (by (repeat (first | (with_reducible exact SinceOf.refl _) | (with_reducible assumption) | (with_reducible refine SinceOf.alloc ?_ _) | (with_reducible refine SinceOf.drew ?_) | (with_reducible refine SinceOf.drewN ?_ _) | (with_reducible refine SinceOf.later ?_ _) | (with_reducible refine SinceOf.further ?_ _) | (with_reducible refine SinceOf.setCell ?_ (by first | exact Nat.le_refl _ | (simp; done) | omega | (simp; omega)) _))))))))
                  refine wpQuiet_nil ?_
                  rintro _ ⟨z4, rfl⟩
                  go_wp2_with fail
                  go_returns
                  exact ⟨by rw [HV.out]; simp, by (repeat (first | (with_reducible exact LaterOf.refl _) | (with_reducible refine LaterOf.alloc ?_ _) | (with_reducible refine LaterOf.drew ?_) | (with_reducible refine LaterOf.drewN ?_ _) | (with_reducible refine LaterOf.later ?_ _) | (with_reducible refine LaterOf.setCell ?_ (by first | exact Nat.le_refl _ | (simp; done) | omega | (simp; omega)) _)))⟩
                · go_wp2_with fail
                  refine region_later (by kernel_rfl) (by kernel_rfl) ?_
                  repeat (go_big_quiet_step ((with_reducible refine Gives.later (FI _ (by (repeat (first | (with_reducible exact SinceOf.refl _) | (with_reducible assumption) | (with_reducible refine SinceOf.alloc ?_ _) | (with_reducible refine SinceOf.drew ?_) | (with_reducible refine SinceOf.drewN ?_ _) | (with_reducible refine SinceOf.later ?_ _) | (with_reducible refine SinceOf.further ?_ _) | (with_reducible refine SinceOf.setCell ?_ (by first | exact Nat.le_refl _ | (simp; done) | omega | (simp; omega)) _))))))))
                  refine wpQuiet_nil ?_
                  rintro _ ⟨z3, rfl⟩
                  go_wp2_with fail
                  refine region_later (by kernel_rfl) (by kernel_rfl) ?_
                  repeat (go_big_quiet_step ((with_reducible refine Gives.later (OP _ (by (repeat (first | (with_reducible exact SinceOf.refl _) | (with_reducible assumption) | (with_reducible refine SinceOf.alloc ?_ _) | (with_reducible refine SinceOf.drew ?_) | (with_reducible refine SinceOf.drewN ?_ _) | (with_reducible refine SinceOf.later ?_ _) | (with_reducible refine SinceOf.further ?_ _) | (with_reducible refine SinceOf.setCell ?_ (by first | exact Nat.le_refl _ | (simp; done) | omega | (simp; omega)) _))))))))
                  refine wpQuiet_nil ?_
                  rintro _ ⟨z4, rfl⟩
                  go_wp2_with fail
                  go_returns
                  exact ⟨by rw [HV.out]; simp [t2], by (repeat (first | (with_reducible exact LaterOf.refl _) | (with_reducible refine LaterOf.alloc ?_ _) | (with_reducible refine LaterOf.drew ?_) | (with_reducible refine LaterOf.drewN ?_ _) | (with_reducible refine LaterOf.later ?_ _) | (with_reducible refine LaterOf.setCell ?_ (by first | exact Nat.le_refl _ | (simp; done) | omega | (simp; omega)) _)))⟩
                · simp only [beq_self_eq_true, Bool.and_self] at HV
                  go_wp2_with fail
                  refine region_later (by kernel_rfl) (by kernel_rfl) ?_
                  repeat (go_big_quiet_step ((with_reducible refine Gives.later (FI _ (by (repeat (first | (with_reducible exact SinceOf.refl _) | (with_reducible assumption) | (with_reducible refine SinceOf.alloc ?_ _) | (with_reducible refine SinceOf.drew ?_) | (with_reducible refine SinceOf.drewN ?_ _) | (with_reducible refine SinceOf.later ?_ _) | (with_reducible refine SinceOf.further ?_ _) | (with_reducible refine SinceOf.setCell ?_ (by first | exact Nat.le_refl _ | (simp; done) | omega | (simp; omega)) _))))))))
                  refine wpQuiet_nil ?_
                  rintro _ ⟨z3, rfl⟩
                  go_wp2_with fail
                  refine region_later (by kernel_rfl) (by kernel_rfl) ?_
                  repeat (go_big_quiet_step ((with_reducible refine Gives.later (OP _ (by (repeat (first | (with_reducible exact SinceOf.refl _) | (with_reducible assumption) | (with_reducible refine SinceOf.alloc ?_ _) | (with_reducible refine SinceOf.drew ?_) | (with_reducible refine SinceOf.drewN ?_ _) | (with_reducible refine SinceOf.later ?_ _) | (with_reducible refine SinceOf.further ?_ _) | (with_reducible refine SinceOf.setCell ?_ (by first | exact Nat.le_refl _ | (simp; done) | omega | (simp; omega)) _))))))))
                  refine wpQuiet_nil ?_
                  rintro _ ⟨z4, rfl⟩
                  go_wp2_with fail
                  clear FI OP c0 c1 c2 j0 j1 j2 j3 j4 j5
                  go_loopg [15] l.length (fun gas s15 wr => ∃ k : Nat, k ≤ l.length ∧ l.length - k ≤ gas ∧ s15 = .int .i64 k ∧ LaterOf z4.wd wr ∧ q5 = (l.drop k).any (clashR ⟨some ⟨gc, oc, none⟩, sc, cals, sB, sd, R, most⟩ L ⟨jn, mn, xs, fe⟩))
                  case atStart => exact ⟨0, by omega, by omega, rfl, by (repeat (first | (with_reducible exact LaterOf.refl _) | (with_reducible refine LaterOf.alloc ?_ _) | (with_reducible refine LaterOf.drew ?_) | (with_reducible refine LaterOf.drewN ?_ _) | (with_reducible refine LaterOf.later ?_ _) | (with_reducible refine LaterOf.setCell ?_ (by first | exact Nat.le_refl _ | (simp; done) | omega | (simp; omega)) _))), by rw [List.drop_zero]; exact HN.out.2.2.2.2.2.1⟩
                  case round =>
                    obtain ⟨n, hn, hgas3, rfl, ⟨z5, rfl⟩, hq⟩ := hrel
                    by_cases hltn : n < l.length
                    · rw [any_drop _ hltn, HN.out.2.2.2.2.2.2.1] at hq
                      have hrl' := HN.out.1.of (w' := z5.wd) (by (repeat (first | (with_reducible exact SinceOf.refl _) | (with_reducible assumption) | (with_reducible refine SinceOf.alloc ?_ _) | (with_reducible refine SinceOf.drew ?_) | (with_reducible refine SinceOf.drewN ?_ _) | (with_reducible refine SinceOf.later ?_ _) | (with_reducible refine SinceOf.further ?_ _) | (with_reducible refine SinceOf.setCell ?_ (by first | exact Nat.le_refl _ | (simp; done) | omega | (simp; omega)) _))))
                      obtain ⟨g, off, rfl, hr⟩ := hrl'.at_ (by omega)
                      have hO := hr.there
                      have s0 := hr.s0 n hltn
                      have s1 := hr.s1 n hltn
                      have s2 := hr.s2 n hltn
                      have s3 := hr.s3 n hltn
                      have hyj := (nameB_iff.1 (HN.out.2.1 _ (List.getElem_mem hltn))).1
                      have F1 := FO1 _ hyj
                      have F2 := FO2 _ hyj
                      generalize followsR ⟨some ⟨gc, oc, none⟩, sc, cals, sB, sd, R, most⟩ L ⟨jn, mn, xs, fe⟩ l[n] = b1 at *
                      generalize followsR ⟨some ⟨gc, oc, none⟩, sc, cals, sB, sd, R, most⟩ L l[n] ⟨jn, mn, xs, fe⟩ = b2 at *
                      generalize l[n] = y at *
                      obtain ⟨yj, ym, ys, ye⟩ := y
                      simp only at *
                      clear hr hrl' hyj
                      by_cases hm : ym = (mn : Int)
                      · have F3 := F2 hm
                        clear F2
                        subst hm
                        rw [show ((mn : Int) == (mn : Int)) = true from by simp, Bool.true_and] at hq
                        cases b1
                        · cases b2
                          · simp only [Bool.not_false, Bool.and_self, Bool.true_or] at hq
                            have HQ := Lib.hid hq
                            clear hq
                            go_wp2_with fail
                            refine (F1 _ (by (repeat (first | (with_reducible exact SinceOf.refl _) | (with_reducible assumption) | (with_reducible refine SinceOf.alloc ?_ _) | (with_reducible refine SinceOf.drew ?_) | (with_reducible refine SinceOf.drewN ?_ _) | (with_reducible refine SinceOf.later ?_ _) | (with_reducible refine SinceOf.further ?_ _) | (with_reducible refine SinceOf.setCell ?_ (by first | exact Nat.le_refl _ | (simp; done) | omega | (simp; omega)) _))))).calls.mono ?_
                            rintro e _ ⟨rfl, x1, rfl⟩
                            go_wp2_with fail
                            refine (F3 _ (by (repeat (first | (with_reducible exact SinceOf.refl _) | (with_reducible assumption) | (with_reducible refine SinceOf.alloc ?_ _) | (with_reducible refine SinceOf.drew ?_) | (with_reducible refine SinceOf.drewN ?_ _) | (with_reducible refine SinceOf.later ?_ _) | (with_reducible refine SinceOf.further ?_ _) | (with_reducible refine SinceOf.setCell ?_ (by first | exact Nat.le_refl _ | (simp; done) | omega | (simp; omega)) _))))).calls.mono ?_
                            rintro e _ ⟨rfl, x2, rfl⟩
                            go_wp2_with fail
                            go_returns
                            exact ⟨by rw [HV.out, HQ.out]; rfl, by (repeat (first | (with_reducible exact LaterOf.refl _) | (with_reducible refine LaterOf.alloc ?_ _) | (with_reducible refine LaterOf.drew ?_) | (with_reducible refine LaterOf.drewN ?_ _) | (with_reducible refine LaterOf.later ?_ _) | (with_reducible refine LaterOf.setCell ?_ (by first | exact Nat.le_refl _ | (simp; done) | omega | (simp; omega)) _)))⟩
                          · simp only [Bool.not_false, Bool.not_true, Bool.and_false, Bool.false_or] at hq
                            have HQ := Lib.hid hq
                            clear hq
                            go_wp2_with fail
                            refine (F1 _ (by (repeat (first | (with_reducible exact SinceOf.refl _) | (with_reducible assumption) | (with_reducible refine SinceOf.alloc ?_ _) | (with_reducible refine SinceOf.drew ?_) | (with_reducible refine SinceOf.drewN ?_ _) | (with_reducible refine SinceOf.later ?_ _) | (with_reducible refine SinceOf.further ?_ _) | (with_reducible refine SinceOf.setCell ?_ (by first | exact Nat.le_refl _ | (simp; done) | omega | (simp; omega)) _))))).calls.mono ?_
                            rintro e _ ⟨rfl, x1, rfl⟩
                            go_wp2_with fail
                            refine (F3 _ (by (repeat (first | (with_reducible exact SinceOf.refl _) | (with_reducible assumption) | (with_reducible refine SinceOf.alloc ?_ _) | (with_reducible refine SinceOf.drew ?_) | (with_reducible refine SinceOf.drewN ?_ _) | (with_reducible refine SinceOf.later ?_ _) | (with_reducible refine SinceOf.further ?_ _) | (with_reducible refine SinceOf.setCell ?_ (by first | exact Nat.le_refl _ | (simp; done) | omega | (simp; omega)) _))))).calls.mono ?_
                            rintro e _ ⟨rfl, x2, rfl⟩
                            go_wp2_with fail
                            go_roundg (l.length - (n + 1))
                            case measure => omega
                            case rel => exact ⟨n + 1, hltn, Nat.le_refl _, by go_num, by (repeat (first | (with_reducible exact LaterOf.refl _) | (with_reducible refine LaterOf.alloc ?_ _) | (with_reducible refine LaterOf.drew ?_) | (with_reducible refine LaterOf.drewN ?_ _) | (with_reducible refine LaterOf.later ?_ _) | (with_reducible refine LaterOf.setCell ?_ (by first | exact Nat.le_refl _ | (simp; done) | omega | (simp; omega)) _))), HQ.out⟩
                        · simp only [Bool.not_true, Bool.false_and, Bool.false_or] at hq
                          have HQ := Lib.hid hq
                          clear hq
                          go_wp2_with fail
                          refine (F1 _ (by (repeat (first | (with_reducible exact SinceOf.refl _) | (with_reducible assumption) | (with_reducible refine SinceOf.alloc ?_ _) | (with_reducible refine SinceOf.drew ?_) | (with_reducible refine SinceOf.drewN ?_ _) | (with_reducible refine SinceOf.later ?_ _) | (with_reducible refine SinceOf.further ?_ _) | (with_reducible refine SinceOf.setCell ?_ (by first | exact Nat.le_refl _ | (simp; done) | omega | (simp; omega)) _))))).calls.mono ?_
                          rintro e _ ⟨rfl, x1, rfl⟩
                          go_wp2_with fail
                          go_roundg (l.length - (n + 1))
                          case measure => omega
                          case rel => exact ⟨n + 1, hltn, Nat.le_refl _, by go_num, by (repeat (first | (with_reducible exact LaterOf.refl _) | (with_reducible refine LaterOf.alloc ?_ _) | (with_reducible refine LaterOf.drew ?_) | (with_reducible refine LaterOf.drewN ?_ _) | (with_reducible refine LaterOf.later ?_ _) | (with_reducible refine LaterOf.setCell ?_ (by first | exact Nat.le_refl _ | (simp; done) | omega | (simp; omega)) _))), HQ.out⟩
                      · have e : (ym == (mn : Int)) = false := by simpa using hm
                        rw [e, Bool.false_and, Bool.false_or] at hq
                        have HQ := Lib.hid hq
                        clear hq hm F1 F2 FO1 FO2
                        go_wp2_with fail
                        go_roundg (l.length - (n + 1))
                        case measure => omega
                        case rel => exact ⟨n + 1, hltn, Nat.le_refl _, by go_num, by (repeat (first | (with_reducible exact LaterOf.refl _) | (with_reducible refine LaterOf.alloc ?_ _) | (with_reducible refine LaterOf.drew ?_) | (with_reducible refine LaterOf.drewN ?_ _) | (with_reducible refine LaterOf.later ?_ _) | (with_reducible refine LaterOf.setCell ?_ (by first | exact Nat.le_refl _ | (simp; done) | omega | (simp; omega)) _))), HQ.out⟩
                    · have hnl : n = l.length := by omega
                      rw [hnl, List.drop_length] at hq
                      have HQ := Lib.hid hq
                      clear hq hnl
                      go_wp2_with fail
                      go_returns
                      exact ⟨by rw [HV.out, HQ.out]; rfl, by (repeat (first | (with_reducible exact LaterOf.refl _) | (with_reducible refine LaterOf.alloc ?_ _) | (with_reducible refine LaterOf.drew ?_) | (with_reducible refine LaterOf.drewN ?_ _) | (with_reducible refine LaterOf.later ?_ _) | (with_reducible refine LaterOf.setCell ?_ (by first | exact Nat.le_refl _ | (simp; done) | omega | (simp; omega)) _)))⟩
end Go.Proofs.Ytdcncalcncomoaa
/- Layer 52 (the reference): open. -/
namespace Go.Proofs.Ytdcncalcncomoaa
open Go.RowKit Go.Sort
set_option linter.unusedVariables false
attribute [local go_sem ↓] Go.wp_at_zero Go.wp_at_succ

theorem firstN_succ (L : List JobR) (l : List SlotR) (k i : Nat) : firstN L l k (i + 1) = (firstN L l k i && (!(ordK L l i == ordK L l k) || decide (k ≤ i))) := by
  unfold firstN; rw [List.range_succ, List.all_append]; simp
theorem any_take_succ {α : Type} (p : α → Bool) {l : List α} {i : Nat} (h : i < l.length) : (l.take (i + 1)).any p = ((l.take i).any p || p l[i]) := by
  rw [List.take_succ_eq_append_getElem h, List.any_append]; simp
theorem ordK_at {L : List JobR} {l : List SlotR} {k : Nat} (h : k < l.length) : ordK L l k = (jobAt L l[k].job).ord := by unfold ordK ordAt; rw [getS_at h]
set_option maxRecDepth 100000 in
set_option maxHeartbeats 16000000 in
theorem refOpen52_any (A : Option Addr) (c : Nat) (L : List JobR) (B : Option Addr) (d : Nat) (l : List SlotR) (t : Int) (w : World) (h : IsJobs w A c L) (hl : IsSlots w B d l) (hll : l.length < 4611686018427387904) (hn : ∀ y ∈ l, 0 ≤ y.job ∧ y.job < L.length) :
    Gives Try.prog 35 #[.slice A L.length c, .slice B l.length d, .int .i64 t] w (.int .i64 (openR L t l)) := by
  apply Gives.ret
  have hjl := h.len
  have H := Lib.hid (And.intro h (And.intro hl hn))
  clear h hl hn
  go_enter Try.func35, Try.ntmps35
  go_wp2_with fail
  go_loopg [7, 8] l.length (fun gas s7 s8 wr => ∃ k : Nat, k ≤ l.length ∧ l.length - k ≤ gas ∧ s7 = .int .i64 (openTR L t l k) ∧ s8 = .int .i64 k ∧ LaterOf w wr)
  case atStart => exact ⟨0, by omega, by omega, rfl, rfl, by (repeat (first | (with_reducible exact LaterOf.refl _) | (with_reducible refine LaterOf.alloc ?_ _) | (with_reducible refine LaterOf.drew ?_) | (with_reducible refine LaterOf.drewN ?_ _) | (with_reducible refine LaterOf.later ?_ _) | (with_reducible refine LaterOf.setCell ?_ (by first | exact Nat.le_refl _ | (simp; done) | omega | (simp; omega)) _)))⟩
  case round =>
    obtain ⟨k, hk, hgas, rfl, rfl, ⟨z, rfl⟩⟩ := hrel
    by_cases hlt : k < l.length
    · have hst := openTR_succ L t l k
      have hle := openTR_le L t l k
      have hsr : stepR L t l k = (firstN L l k l.length && (begunI L t l (ordK L l k) && runI L t l (ordK L l k))) := rfl
      have hrl' := H.out.2.1.of (w' := z.wd) (by (repeat (first | (with_reducible exact SinceOf.refl _) | (with_reducible assumption) | (with_reducible refine SinceOf.alloc ?_ _) | (with_reducible refine SinceOf.drew ?_) | (with_reducible refine SinceOf.drewN ?_ _) | (with_reducible refine SinceOf.later ?_ _) | (with_reducible refine SinceOf.further ?_ _) | (with_reducible refine SinceOf.setCell ?_ (by first | exact Nat.le_refl _ | (simp; done) | omega | (simp; omega)) _))))
      have hjl' := H.out.1.of (w' := z.wd) (by (repeat (first | (with_reducible exact SinceOf.refl _) | (with_reducible assumption) | (with_reducible refine SinceOf.alloc ?_ _) | (with_reducible refine SinceOf.drew ?_) | (with_reducible refine SinceOf.drewN ?_ _) | (with_reducible refine SinceOf.later ?_ _) | (with_reducible refine SinceOf.further ?_ _) | (with_reducible refine SinceOf.setCell ?_ (by first | exact Nat.le_refl _ | (simp; done) | omega | (simp; omega)) _))))
      have hkj := H.out.2.2 _ (List.getElem_mem hlt)
      obtain ⟨g, off, rfl, hr⟩ := hrl'.at_ (by omega)
      obtain ⟨gj, oj, rfl, hrj⟩ := hjl'.row.at_ (by omega)
      have hO := hr.there
      have hOj := hrj.there
      have s0 := hr.s0 k hlt
      obtain ⟨jn, ejn⟩ : ∃ m : Nat, l[k].job = m := ⟨l[k].job.toNat, by omega⟩
      have hjn : jn < L.length := by omega
      have jc := hrj.j5 jn hjn
      have hok : L[jn].ord = ordK L l k := by rw [ordK_at hlt, ejn, jobAt_at hjn]
      rw [hok] at jc
      rw [ejn] at s0
      generalize hoo : ordK L l k = o at *
      generalize openTR L t l k = cn at *
      have HR := Lib.hid (And.intro hr hrj)
      have HS := Lib.hid (And.intro hst (And.intro hsr hoo))
      clear hr hrj hrl' hjl' hok ejn hst hsr hoo hkj
      go_wp2_with fail
      go_loopg [10, 11, 12, 13] l.length (fun gas s10 s11 s12 s13 wr => ∃ i : Nat, i ≤ l.length ∧ l.length - i ≤ gas ∧ s10 = .bool (firstN L l k i) ∧ s11 = .bool ((l.take i).any fun x => ordAt L x == o && decide (x.start ≤ t)) ∧ s12 = .bool ((l.take i).any fun x => ordAt L x == o && decide (t < x.stop)) ∧ s13 = .int .i64 i ∧ LaterOf z.wd wr)
      case atStart => exact ⟨0, by omega, by omega, rfl, rfl, rfl, rfl, by (repeat (first | (with_reducible exact LaterOf.refl _) | (with_reducible refine LaterOf.alloc ?_ _) | (with_reducible refine LaterOf.drew ?_) | (with_reducible refine LaterOf.drewN ?_ _) | (with_reducible refine LaterOf.later ?_ _) | (with_reducible refine LaterOf.setCell ?_ (by first | exact Nat.le_refl _ | (simp; done) | omega | (simp; omega)) _)))⟩
      case round =>
        obtain ⟨i, hi, hgas2, rfl, rfl, rfl, rfl, ⟨z2, rfl⟩⟩ := hrel
        by_cases hlti : i < l.length
        · have f1 := firstN_succ L l k i
          have f2 := any_take_succ (fun x => ordAt L x == o && decide (x.start ≤ t)) hlti
          have f3 := any_take_succ (fun x => ordAt L x == o && decide (t < x.stop)) hlti
          have e3 : ordAt L l[i] = ordK L l i := by unfold ordK; rw [getS_at hlti]
          rw [HS.out.2.2] at f1
          rw [e3] at f2 f3
          have s1 := HR.out.1.s0 i hlti
          have s2 := HR.out.1.s2 i hlti
          have s3 := HR.out.1.s3 i hlti
          have hkj := H.out.2.2 _ (List.getElem_mem hlti)
          obtain ⟨jm, ejm⟩ : ∃ m : Nat, l[i].job = m := ⟨l[i].job.toNat, by omega⟩
          have hjm : jm < L.length := by omega
          have jd := HR.out.2.j5 jm hjm
          have hok : L[jm].ord = ordK L l i := by rw [ordK_at hlti, ejm, jobAt_at hjm]
          rw [hok] at jd
          rw [ejm] at s1
          generalize ordK L l i = oi at *
          generalize l[i].start = xs at *
          generalize l[i].stop = xe at *
          generalize firstN L l k i = b1 at *
          generalize ((l.take i).any fun x => ordAt L x == o && decide (x.start ≤ t)) = b2 at *
          generalize ((l.take i).any fun x => ordAt L x == o && decide (t < x.stop)) = b3 at *
          clear hkj ejm hok e3
          by_cases he : oi = o
          · have e : (oi == o) = true := by simpa using he
            rw [e] at f1 f2 f3
            have HF := Lib.hid (And.intro f1 (And.intro f2 f3))
            clear f1 f2 f3 he
            cases b1 <;> cases b2 <;> cases b3
            all_goals
              go_wp2_with fail
              go_roundg (l.length - (i + 1))
              case measure => omega
              case rel => exact ⟨i + 1, hlti, Nat.le_refl _, by rw [HF.out.1]; simp, by rw [HF.out.2.1]; simp, by rw [HF.out.2.2]; simp, by go_num, by (repeat (first | (with_reducible exact LaterOf.refl _) | (with_reducible refine LaterOf.alloc ?_ _) | (with_reducible refine LaterOf.drew ?_) | (with_reducible refine LaterOf.drewN ?_ _) | (with_reducible refine LaterOf.later ?_ _) | (with_reducible refine LaterOf.setCell ?_ (by first | exact Nat.le_refl _ | (simp; done) | omega | (simp; omega)) _)))⟩
          · have e : (oi == o) = false := by simpa using he
            rw [e] at f1 f2 f3
            have HF := Lib.hid (And.intro f1 (And.intro f2 f3))
            clear f1 f2 f3 he s2 s3
            go_wp2_with fail
            go_roundg (l.length - (i + 1))
            case measure => omega
            case rel => exact ⟨i + 1, hlti, Nat.le_refl _, by rw [HF.out.1]; simp, by rw [HF.out.2.1]; simp, by rw [HF.out.2.2]; simp, by go_num, by (repeat (first | (with_reducible exact LaterOf.refl _) | (with_reducible refine LaterOf.alloc ?_ _) | (with_reducible refine LaterOf.drew ?_) | (with_reducible refine LaterOf.drewN ?_ _) | (with_reducible refine LaterOf.later ?_ _) | (with_reducible refine LaterOf.setCell ?_ (by first | exact Nat.le_refl _ | (simp; done) | omega | (simp; omega)) _)))⟩
        · have hil : i = l.length := by omega
          have e1 : firstN L l k i = firstN L l k l.length := by rw [hil]
          have e2 : ((l.take i).any fun x => ordAt L x == o && decide (x.start ≤ t)) = begunI L t l o := by rw [hil, List.take_length]; rfl
          have e3 : ((l.take i).any fun x => ordAt L x == o && decide (t < x.stop)) = runI L t l o := by rw [hil, List.take_length]; rfl
          rw [e1, e2, e3]
          have hs1 := HS.out.1
          rw [HS.out.2.1] at hs1
          generalize firstN L l k l.length = b1 at *
          generalize begunI L t l o = b2 at *
          generalize runI L t l o = b3 at *
          have HC := Lib.hid hs1
          clear e1 e2 e3 hs1 hil s0 jc
          cases b1 <;> cases b2 <;> cases b3
          all_goals
            go_wp2_with fail
            go_roundg (l.length - (k + 1))
            case measure => omega
            case rel => exact ⟨k + 1, hlt, Nat.le_refl _, by rw [HC.out]; simp, by go_num, by (repeat (first | (with_reducible exact LaterOf.refl _) | (with_reducible refine LaterOf.alloc ?_ _) | (with_reducible refine LaterOf.drew ?_) | (with_reducible refine LaterOf.drewN ?_ _) | (with_reducible refine LaterOf.later ?_ _) | (with_reducible refine LaterOf.setCell ?_ (by first | exact Nat.le_refl _ | (simp; done) | omega | (simp; omega)) _)))⟩
    · have hkl : k = l.length := by omega
      have e : openR L t l = openTR L t l k := by rw [hkl]; rfl
      generalize openTR L t l k = v at *
      have HE := Lib.hid e
      clear e hkl
      go_wp2_with fail
      go_returns
      exact ⟨by rw [HE.out]; rfl, by (repeat (first | (with_reducible exact LaterOf.refl _) | (with_reducible refine LaterOf.alloc ?_ _) | (with_reducible refine LaterOf.drew ?_) | (with_reducible refine LaterOf.drewN ?_ _) | (with_reducible refine LaterOf.later ?_ _) | (with_reducible refine LaterOf.setCell ?_ (by first | exact Nat.le_refl _ | (simp; done) | omega | (simp; omega)) _)))⟩
end Go.Proofs.Ytdcncalcncomoaa
