/- Layer 52 (the reference): has, ready, follows. -/
import Derived.Test.YtpaojgfmffkodaaGreatLSchP2
import Derived.Test.YtpaojgfmffkodaaGreatLSch28
import Derived.Test.YtpaojgfmffkodaaGreatLSch32
import Derived.Deep.RegionLaw
import Derived.Deep.CutBlock
import Derived.Deep.RegionHeld3
namespace Go.Proofs.YtpaojgfmffkodaaGreat
set_option linter.unusedVariables false
set_option linter.unusedSimpArgs false
open Go.RowKit Go.Sort
attribute [local go_sem ↓] Go.wp_at_zero Go.wp_at_succ
set_option maxHeartbeats 1000000 in
theorem refHas_any (B : Option Addr) (d : Nat) (l : List SlotR) (j : Int) (w : World) (hl : IsSlots w B d l) (hll : l.length < 4611686018427387904) :
    Gives Tryz.prog 93 #[.slice B l.length d, .int .i64 j] w (.bool (l.any fun y => y.job == j)) := by
  apply Gives.ret
  have H := Lib.hid hl
  clear hl
  obtain ⟨v, hv⟩ : ∃ v, v = l.any fun y => y.job == j := ⟨_, rfl⟩
  rw [← hv]
  have HV := Lib.hid hv
  clear hv
  go_enter Tryz.func93, Tryz.ntmps93
  go_wp2_with fail
  go_loopg [5] l.length (fun gas s5 wr => ∃ k : Nat, k ≤ l.length ∧ l.length - k ≤ gas ∧ s5 = .int .i64 k ∧ LaterOf w wr ∧ v = (l.drop k).any fun y => y.job == j)
  case atStart => exact ⟨0, by omega, by omega, rfl, Lx, by rw [List.drop_zero]; exact HV.out⟩
  case round =>
    obtain ⟨k, hk, hgas, rfl, ⟨z, rfl⟩, hany⟩ := hrel
    by_cases hlt : k < l.length
    · rw [any_drop _ hlt] at hany
      have hrl := H.out.of (w' := z.wd) Sx
      obtain ⟨g, off, rfl, hr⟩ := hrl.at_ (by omega)
      have hO := hr.there
      have s0 := hr.s0 k hlt
      generalize l[k].job = xj at *
      clear hr hrl
      by_cases he : xj = j
      · have e : (xj == j) = true := by simpa using he
        rw [e, Bool.true_or] at hany
        have HA := Lib.hid hany
        clear hany he
        go_wp2_with fail
        go_returns
        exact ⟨by rw [HA.out]; rfl, Lx⟩
      · have e : (xj == j) = false := by simpa using he
        rw [e, Bool.false_or] at hany
        have HA := Lib.hid hany
        clear hany he
        go_wp2_with fail
        go_roundg (l.length - (k + 1))
        case measure => omega
        case rel => exact ⟨k + 1, hlt, Nat.le_refl _, by go_num, Lx, HA.out⟩
    · have hkl : k = l.length := by omega
      rw [hkl, List.drop_length] at hany
      have HA := Lib.hid hany
      clear hany hkl
      go_wp2_with fail
      go_returns
      exact ⟨by rw [HA.out]; rfl, Lx⟩
set_option maxRecDepth 100000 in
set_option maxHeartbeats 4000000 in
theorem refReady_any (s : ShopR) (A : Option Addr) (c : Nat) (L : List JobR) (a : SlotR) (q : Nat) (w : World) (hs : IsShop w s) (h : IsJobs w A c L) (gp : GoodP s L) (hm : 0 ≤ a.mach ∧ a.mach < s.cals.length) (ha : 0 ≤ a.job ∧ a.job < L.length) (hq : q < s.rows.length) :
    Gives Tryz.prog 165 #[shopV s, .slice A L.length c, slotV a, .int .i64 q] w (.tuple #[.int .i64 (finishAt s a.mach a.stop (get2 s.rows (jobAt L a.job).cls.toNat q)).1, .bool ((finishAt s a.mach a.stop (get2 s.rows (jobAt L a.job).cls.toNat q)).2 == 0)]) := by
  apply Gives.ret
  obtain ⟨aj, am, a1, a2⟩ := a
  simp only at hm ha
  obtain ⟨m, rfl⟩ : ∃ m : Nat, am = m := ⟨am.toNat, by omega⟩
  obtain ⟨ja, rfl⟩ : ∃ m : Nat, aj = m := ⟨aj.toNat, by omega⟩
  have hm' : m < s.cals.length := by omega
  have ha' : ja < L.length := by omega
  have hcl := hs.cals.len
  have hrl := hs.rows.len
  have hll := h.len
  obtain ⟨ca0, ca1⟩ := gp.cls _ (List.getElem_mem ha')
  obtain ⟨p, hp⟩ : ∃ p : Nat, L[ja].cls = p := ⟨L[ja].cls.toNat, by omega⟩
  have hp' : p < s.rows.length := by omega
  have e2 : get2 s.rows (jobAt L ja).cls.toNat q = get2 s.rows p q := by rw [jobAt_at ha', hp]; rfl
  have hz := gp.sz p hp'
  have hrw := hs.rows.all _ (List.getElem_mem hp')
  obtain ⟨gc, oc, hAc, hrc⟩ := hs.cals.row.at_ (by omega)
  obtain ⟨gj, oj, hAj, hrj⟩ := h.row.at_ (by omega)
  obtain ⟨gr, og, hAr, hrr⟩ := hs.rows.row.at_ (by omega)
  obtain ⟨gx, ox, hAx, hrx⟩ := hrw.1.at_ (by omega)
  have hOc := hrc.there
  have hOj := hrj.there
  have hOr := hrr.there
  have hOx := hrx.there
  have c0 := hrc.k0 m hm'
  have c1 := hrc.k1 m hm'
  have c2 := hrc.k2 m hm'
  have j2 := hrj.j2 ja ha'
  have r0 := hrr.r0 p hp'
  have x0 := hrx.n0 q (by omega)
  rw [← get2_at hp' (by omega)] at x0
  rw [hp] at j2
  rw [hAx, hz] at r0
  have e1 : finishAt s m a2 (get2 s.rows p q) = finishV s.cals[m].P s.cals[m].S s.cals[m].D a2 (get2 s.rows p q) := by unfold finishAt; rw [calAt_at hm']
  rw [e2, e1]
  generalize get2 s.rows p q = st at *
  have W := fun W hW => refFinish_any (w := W) a2 st ((hs.cals.all _ (List.getElem_mem hm')).of hW)
  simp only [pairV] at W
  generalize finishV s.cals[m].P s.cals[m].S s.cals[m].D a2 st = wk at *
  obtain ⟨w1, w2⟩ := wk
  generalize s.cals[m] = K at *
  generalize s.rows[p].c = cx at *
  obtain ⟨sA, sc, cals, sB, sd, R, most⟩ := s
  simp only at *
  subst hAc hAj hAr
  clear hs h gp hrc hrj hrr hrx hrw hAx e1 e2 hp hz
  go_enter Tryz.func165, Tryz.ntmps165
  go_wp2_with fail
  refine region_later (by kernel_rfl) (by kernel_rfl) ?_
  repeat (go_big_quiet_step ((with_reducible refine Gives.later (W _ Sx))))
  refine wpQuiet_nil ?_
  rintro _ ⟨x1, rfl⟩
  go_wp2_with fail
  go_returns
  exact ⟨by simp [*], Lx⟩
set_option maxRecDepth 100000 in
set_option maxHeartbeats 4000000 in
theorem refFollows_any (s : ShopR) (A : Option Addr) (c : Nat) (L : List JobR) (a b : SlotR) (w : World) (hs : IsShop w s) (h : IsJobs w A c L) (gp : GoodP s L) (hm : 0 ≤ a.mach ∧ a.mach < s.cals.length) (ha : 0 ≤ a.job ∧ a.job < L.length) (hb : 0 ≤ b.job ∧ b.job < L.length) :
    Gives Tryz.prog 121 #[shopV s, .slice A L.length c, slotV a, slotV b] w (.bool (followsR s L a b)) := by
  apply Gives.ret
  obtain ⟨aj, am, a1, a2⟩ := a
  obtain ⟨bj, bm, b1, b2⟩ := b
  simp only at hm ha hb
  obtain ⟨m, rfl⟩ : ∃ m : Nat, am = m := ⟨am.toNat, by omega⟩
  obtain ⟨ja, rfl⟩ : ∃ m : Nat, aj = m := ⟨aj.toNat, by omega⟩
  obtain ⟨jb, rfl⟩ : ∃ m : Nat, bj = m := ⟨bj.toNat, by omega⟩
  have hm' : m < s.cals.length := by omega
  have ha' : ja < L.length := by omega
  have hb' : jb < L.length := by omega
  have hfb : followsR s L ⟨ja, m, a1, a2⟩ ⟨jb, bm, b1, b2⟩ = (!decide (b1 < a2) && decide (setupAt s L ja jb ≤ (workAt s m a2 b1).1)) := rfl
  by_cases hlt : b1 < a2
  · rw [hfb, show decide (b1 < a2) = true from by simpa using hlt]
    clear hs h gp hfb
    go_enter Tryz.func121, Tryz.ntmps121
    go_wp2_with fail
    go_returns
    exact ⟨by simp, Lx⟩
  · have hlt' : decide (b1 < a2) = false := by simpa using hlt
    rw [hfb, hlt']
    have hcl := hs.cals.len
    have hrl := hs.rows.len
    have hll := h.len
    have W := fun W hW => refWork_any (w := W) a2 b1 ((hs.cals.all _ (List.getElem_mem hm')).of hW)
    have e1 : workAt s m a2 b1 = workV s.cals[m].P s.cals[m].S s.cals[m].D a2 b1 := by unfold workAt; rw [calAt_at hm']
    obtain ⟨ca0, ca1⟩ := gp.cls _ (List.getElem_mem ha')
    obtain ⟨cb0, cb1⟩ := gp.cls _ (List.getElem_mem hb')
    have e2 : setupAt s L ja jb = get2 s.rows L[ja].cls.toNat L[jb].cls.toNat := by unfold setupAt; rw [jobAt_at ha', jobAt_at hb']
    obtain ⟨p, hp⟩ : ∃ p : Nat, L[ja].cls = p := ⟨L[ja].cls.toNat, by omega⟩
    obtain ⟨q, hq⟩ : ∃ q : Nat, L[jb].cls = q := ⟨L[jb].cls.toNat, by omega⟩
    have hp' : p < s.rows.length := by omega
    have hq' : q < s.rows.length := by omega
    rw [hp, hq, Int.toNat_natCast, Int.toNat_natCast] at e2
    have hz := gp.sz p hp'
    have hrw := hs.rows.all _ (List.getElem_mem hp')
    obtain ⟨gc, oc, hAc, hrc⟩ := hs.cals.row.at_ (by omega)
    obtain ⟨gj, oj, hAj, hrj⟩ := h.row.at_ (by omega)
    obtain ⟨gr, og, hAr, hrr⟩ := hs.rows.row.at_ (by omega)
    obtain ⟨gx, ox, hAx, hrx⟩ := hrw.1.at_ (by omega)
    have hOc := hrc.there
    have hOj := hrj.there
    have hOr := hrr.there
    have hOx := hrx.there
    have c0 := hrc.k0 m hm'
    have c1 := hrc.k1 m hm'
    have c2 := hrc.k2 m hm'
    have j2 := hrj.j2 ja ha'
    have i2 := hrj.j2 jb hb'
    have r0 := hrr.r0 p hp'
    have x0 := hrx.n0 q (by omega)
    rw [← get2_at hp' (by omega)] at x0
    rw [hp] at j2
    rw [hq] at i2
    rw [hAx, hz] at r0
    rw [e2, e1]
    simp only [pairV] at W
    generalize get2 s.rows p q = st at *
    generalize workV s.cals[m].P s.cals[m].S s.cals[m].D a2 b1 = wk at *
    obtain ⟨w1, w2⟩ := wk
    generalize s.cals[m] = K at *
    generalize s.rows[p].c = cx at *
    obtain ⟨sA, sc, cals, sB, sd, R, most⟩ := s
    simp only at *
    subst hAc hAj hAr
    clear hfb hs h gp hrc hrj hrr hrx hrw hAx e1 e2 hp hq hz
    go_enter Tryz.func121, Tryz.ntmps121
    go_wp2_with fail
    refine region_later (by kernel_rfl) (by kernel_rfl) ?_
    repeat (go_big_quiet_step ((with_reducible refine Gives.later (W _ Sx))))
    refine wpQuiet_nil ?_
    rintro _ ⟨x1, rfl⟩
    go_wp2_with fail
    refine region_later (by kernel_rfl) (by kernel_rfl) ?_
    repeat (go_big_quiet_step (fail))
    refine wpQuiet_nil ?_
    rintro _ ⟨x2, rfl⟩
    go_wp2_with fail
    go_returns
    exact ⟨by simp [*], Lx⟩
end Go.Proofs.YtpaojgfmffkodaaGreat
/- Layer 52 (the reference): fits. -/
namespace Go.Proofs.YtpaojgfmffkodaaGreat
set_option linter.unusedVariables false
set_option linter.unusedSimpArgs false
open Go.RowKit Go.Sort
attribute [local go_sem ↓] Go.wp_at_zero Go.wp_at_succ
set_option maxRecDepth 100000 in
set_option maxHeartbeats 16000000 in
theorem refFits_any (s : ShopR) (A : Option Addr) (c : Nat) (L : List JobR) (B : Option Addr) (d : Nat) (l : List SlotR) (x : SlotR) (w : World) (hs : IsShop w s) (h : IsJobs w A c L) (gp : GoodP s L) (hl : IsSlots w B d l) (hll : l.length < 4611686018427387904) (hn : NamedS s L l) :
    Gives Tryz.prog 80 #[shopV s, .slice A L.length c, .slice B l.length d, slotV x] w (.int .i64 (slotR s L l x)) := by
  apply Gives.ret
  have hcl := hs.cals.len
  have hrl := hs.rows.len
  have hjl := h.len
  have hni := nameB_iff (s := s) (L := L) (x := x)
  by_cases hnt : nameB s L x = true
  rotate_left 1
  · have hf : slotR s L l x = 6 := by unfold slotR; rw [if_pos (by simpa using hnt)]
    rw [hf]
    have hcase : (x.job < 0) ∨ (¬ x.job < 0 ∧ (L.length : Int) ≤ x.job) ∨ (¬ x.job < 0 ∧ ¬ (L.length : Int) ≤ x.job ∧ x.mach < 0) ∨ (¬ x.job < 0 ∧ ¬ (L.length : Int) ≤ x.job ∧ ¬ x.mach < 0 ∧ (s.cals.length : Int) ≤ x.mach) := by
      rw [hni] at hnt; omega
    obtain ⟨xj, xm, xs, xe⟩ := x
    obtain ⟨sA, sc, cals, sB, sd, R, most⟩ := s
    simp only at hcase hcl hrl
    clear hs h gp hl hn hnt hni hf
    rcases hcase with e0 | ⟨e0, e1⟩ | ⟨e0, e1, e2⟩ | ⟨e0, e1, e2, e3⟩
    all_goals
      go_enter Tryz.func80, Tryz.ntmps80
      go_wp2_with fail
      go_returns
      exact ⟨rfl, Lx⟩
  · obtain ⟨hxj, hxm⟩ := hni.1 hnt
    have hse : slotR s L l x = if l.any (fun y => y.job == x.job) = true then 7 else if (jobAt L x.job).ms.any (fun m => m == x.mach) = false then 25 else if x.start < (jobAt L x.job).rel then 22 else if shiftB s L x = false then 26 else if l.any (clashR s L x) = true then 27 else 0 := by
      unfold slotR; rw [if_neg (by rw [hnt]; simp)]
    rw [hse]
    clear hse hni
    have FO1 := fun (y : SlotR) (hy : 0 ≤ y.job ∧ y.job < L.length) W (hW : SinceOf w W) => refFollows_any s A c L x y W (hs.of hW) (h.of hW) gp hxm hxj hy
    have FO2 := fun (y : SlotR) (hy : 0 ≤ y.job ∧ y.job < L.length) (hm : y.mach = x.mach) W (hW : SinceOf w W) => refFollows_any s A c L y x W (hs.of hW) (h.of hW) gp (by rw [hm]; exact hxm) hy hxj
    have hcr : ∀ y : SlotR, clashR s L x y = ((y.mach == x.mach) && (!followsR s L x y && !followsR s L y x)) := fun _ => rfl
    obtain ⟨jn, hjn⟩ : ∃ m : Nat, x.job = m := ⟨x.job.toNat, by omega⟩
    obtain ⟨mn, hmn⟩ : ∃ m : Nat, x.mach = m := ⟨x.mach.toNat, by omega⟩
    have hj' : jn < L.length := by omega
    have hm' : mn < s.cals.length := by omega
    have ej : jobAt L x.job = L[jn] := by rw [hjn]; exact jobAt_at hj'
    have em : calAt s x.mach = s.cals[mn] := by rw [hmn]; exact calAt_at hm'
    have hsb : shiftB s L x = (openV s.cals[mn].P s.cals[mn].S s.cals[mn].D x.start && ((finishV s.cals[mn].P s.cals[mn].S s.cals[mn].D x.start L[jn].dur).2 == 0 && (finishV s.cals[mn].P s.cals[mn].S s.cals[mn].D x.start L[jn].dur).1 == x.stop)) := by
      unfold shiftB openAt finishAt; rw [ej, em]
    rw [ej, hsb]
    have hka := hs.cals.all _ (List.getElem_mem hm')
    have hja := h.all _ (List.getElem_mem hj')
    have FI := fun W hW => refFinish_any (w := W) x.start L[jn].dur (hka.of hW)
    have OP := fun W hW => refOpenAt_any (w := W) x.start (hka.of hW)
    simp only [pairV] at FI
    obtain ⟨gc, oc, hAc, hrc⟩ := hs.cals.row.at_ (by omega)
    obtain ⟨gj, oj, hAj, hrj⟩ := h.row.at_ (by omega)
    have hOc := hrc.there
    have hOj := hrj.there
    have c0 := hrc.k0 mn hm'
    have c1 := hrc.k1 mn hm'
    have c2 := hrc.k2 mn hm'
    have j0 := hrj.j0 jn hj'
    have j1 := hrj.j1 jn hj'
    have j2 := hrj.j2 jn hj'
    have j3 := hrj.j3 jn hj'
    have j4 := hrj.j4 jn hj'
    have j5 := hrj.j5 jn hj'
    have hjm := hja.1
    have hjml := hja.2
    generalize L[jn] = J at *
    generalize s.cals[mn] = K at *
    generalize finishV K.P K.S K.D x.start J.dur = fv at *
    generalize openV K.P K.S K.D x.start = ov at *
    obtain ⟨fe, fr⟩ := fv
    obtain ⟨q3, hq3⟩ : ∃ q, q = l.any (fun y => y.job == x.job) := ⟨_, rfl⟩
    obtain ⟨q4, hq4⟩ : ∃ q, q = J.ms.any (fun m => m == x.mach) := ⟨_, rfl⟩
    obtain ⟨q5, hq5⟩ : ∃ q, q = l.any (clashR s L x) := ⟨_, rfl⟩
    obtain ⟨v, hv⟩ : ∃ v : Int, v = (if l.any (fun y => y.job == x.job) = true then 7 else if J.ms.any (fun m => m == x.mach) = false then 25 else if x.start < J.rel then 22 else if (ov && (fr == 0 && fe == x.stop)) = false then 26 else if l.any (clashR s L x) = true then 27 else 0) := ⟨_, rfl⟩
    rw [← hv]
    rw [← hq3, ← hq4, ← hq5] at hv
    have e0 : ¬ (jn : Int) < 0 := by omega
    have e1 : ¬ (L.length : Int) ≤ jn := by omega
    have e2 : ¬ (mn : Int) < 0 := by omega
    have e3 : ¬ (s.cals.length : Int) ≤ mn := by omega
    obtain ⟨xj, xm, xs, xe⟩ := x
    obtain ⟨jA, jc, ms, dur, cls, rel, due, ord⟩ := J
    simp only at *
    subst hjn hmn hAj
    have HN := Lib.hid (And.intro hl (And.intro hn (And.intro hjm (And.intro hq3 (And.intro hq4 (And.intro hq5 (And.intro hcr hv)))))))
    obtain ⟨sA, sc, cals, sB, sd, R, most⟩ := s
    simp only at *
    subst hAc
    clear hs h gp hl hn hnt hrc hrj hka hja hjm ej em hsb hv hq3 hq4 hq5 hcr hxj hxm
    go_enter Tryz.func80, Tryz.ntmps80
    go_wp2_with fail
    go_loopg [9] l.length (fun gas s9 wr => ∃ k : Nat, k ≤ l.length ∧ l.length - k ≤ gas ∧ s9 = .int .i64 k ∧ LaterOf ((w.alloc (.cells #[.slice (some ⟨gc, oc, none⟩) cals.length sc, .slice sB R.length sd, .int .i64 most] 25)).alloc (.cells #[.int .i64 jn, .int .i64 mn, .int .i64 xs, .int .i64 xe] 77)) wr ∧ q3 = (l.drop k).any (fun y => y.job == (jn : Int)))
    case atStart => exact ⟨0, by omega, by omega, rfl, Lx, by rw [List.drop_zero]; exact HN.out.2.2.2.1⟩
    case round =>
      obtain ⟨k, hk, hgas, rfl, ⟨z, rfl⟩, hany⟩ := hrel
      by_cases hlt : k < l.length
      · rw [any_drop _ hlt] at hany
        have hrl' := HN.out.1.of (w' := z.wd) Sx
        obtain ⟨g, off, rfl, hr⟩ := hrl'.at_ (by omega)
        have hO := hr.there
        have s0 := hr.s0 k hlt
        generalize l[k].job = yj at *
        clear hr hrl' FO1 FO2 FI OP c0 c1 c2 j0 j1 j2 j3 j4 j5
        by_cases he : yj = (jn : Int)
        · have e : (yj == (jn : Int)) = true := by simpa using he
          rw [e, Bool.true_or] at hany
          have HA := Lib.hid hany
          clear hany he
          go_wp2_with fail
          refine region_later (by kernel_rfl) (by kernel_rfl) ?_
          repeat (go_big_quiet_step (fail))
          refine wpQuiet_nil ?_
          rintro _ ⟨z1, rfl⟩
          go_wp2_with fail
          go_returns
          exact ⟨by have := HN.out.2.2.2.2.2.2.2; rw [HA.out] at this; rw [this]; rfl, Lx⟩
        · have e : (yj == (jn : Int)) = false := by simpa using he
          rw [e, Bool.false_or] at hany
          have HA := Lib.hid hany
          clear hany he
          go_wp2_with fail
          refine region_later (by kernel_rfl) (by kernel_rfl) ?_
          repeat (go_big_quiet_step (fail))
          refine wpQuiet_nil ?_
          rintro _ ⟨z1, rfl⟩
          go_wp2_with fail
          go_roundg (l.length - (k + 1))
          case measure => omega
          case rel => exact ⟨k + 1, hlt, Nat.le_refl _, by go_num, Lx, HA.out⟩
      · have hkl : k = l.length := by omega
        rw [hkl, List.drop_length] at hany
        have HA := Lib.hid hany
        clear hany hkl
        go_wp2_with fail
        go_loopg [11, 12] ms.length (fun gas s11 s12 wr => ∃ k : Nat, k ≤ ms.length ∧ ms.length - k ≤ gas ∧ s11 = .bool ((ms.take k).any (fun m => m == (mn : Int))) ∧ s12 = .int .i64 k ∧ LaterOf (z.wd.alloc (.cells #[.slice jA ms.length jc, .int .i64 dur, .int .i64 cls, .int .i64 rel, .int .i64 due, .int .i64 ord] 87)) wr)
        case atStart => exact ⟨0, by omega, by omega, rfl, rfl, Lx⟩
        case round =>
          obtain ⟨i, hi, hgas2, rfl, rfl, ⟨z2, rfl⟩⟩ := hrel
          by_cases hlti : i < ms.length
          · have hta : (ms.take (i + 1)).any (fun m => m == (mn : Int)) = ((ms.take i).any (fun m => m == (mn : Int)) || ms[i] == (mn : Int)) := by rw [List.take_succ_eq_append_getElem hlti, List.any_append]; simp
            have hrl' := HN.out.2.2.1.of (w' := z2.wd) Sx
            obtain ⟨g, off, rfl, hr⟩ := hrl'.at_ (by omega)
            have hO := hr.there
            have m0 := hr.n0 i hlti
            generalize ms[i] = mi at *
            generalize (ms.take i).any (fun m => m == (mn : Int)) = b at *
            have HT := Lib.hid hta
            clear hr hrl' FO1 FO2 FI OP c0 c1 c2 j0 j1 j2 j3 j4 j5 hta
            cases b
            · go_wp2_with fail
              refine region_later (by kernel_rfl) (by kernel_rfl) ?_
              repeat (go_big_quiet_step (fail))
              refine wpQuiet_nil ?_
              rintro _ ⟨z3, rfl⟩
              go_wp2_with fail
              go_roundg (ms.length - (i + 1))
              case measure => omega
              case rel => exact ⟨i + 1, hlti, Nat.le_refl _, by rw [HT.out]; rfl, by go_num, Lx⟩
            · go_wp2_with fail
              refine region_later (by kernel_rfl) (by kernel_rfl) ?_
              repeat (go_big_quiet_step (fail))
              refine wpQuiet_nil ?_
              rintro _ ⟨z3, rfl⟩
              go_wp2_with fail
              go_roundg (ms.length - (i + 1))
              case measure => omega
              case rel => exact ⟨i + 1, hlti, Nat.le_refl _, by rw [HT.out]; rfl, by go_num, Lx⟩
          · have hil : i = ms.length := by omega
            have hq4 := HN.out.2.2.2.2.1
            rw [hil, List.take_length, ← hq4]
            clear hq4 hil
            have hq3 : q3 = false := by rw [HA.out]; rfl
            subst hq3
            have HV := Lib.hid HN.out.2.2.2.2.2.2.2
            cases q4
            · go_wp2_with fail
              go_returns
              exact ⟨by rw [HV.out]; rfl, Lx⟩
            · by_cases hrel : xs < rel
              · have f1 : decide (xs < rel) = true := by simpa using hrel
                go_wp2_with fail
                go_returns
                exact ⟨by rw [HV.out]; simp [hrel], Lx⟩
              · have f1 : decide (xs < rel) = false := by simpa using hrel
                have HV0 := HV.out
                rw [if_neg (by simp), if_neg (by simp), if_neg hrel] at HV0
                have HV := Lib.hid HV0
                clear hrel HV0
                have hsh : (fr ≠ 0 ∧ (fr == 0) = false) ∨ (ov = false ∧ fr = 0) ∨ (ov = true ∧ fr = 0 ∧ (fe != xe) = true ∧ (fe == xe) = false) ∨ (ov = true ∧ fr = 0 ∧ fe = xe) := by
                  by_cases h0 : fr = 0
                  · cases ov
                    · exact .inr (.inl ⟨rfl, h0⟩)
                    · by_cases h1 : fe = xe
                      · exact .inr (.inr (.inr ⟨rfl, h0, h1⟩))
                      · exact .inr (.inr (.inl ⟨rfl, h0, by simpa using h1, by simpa using h1⟩))
                  · exact .inl ⟨h0, by simpa using h0⟩
                rcases hsh with ⟨t1, t2⟩ | ⟨rfl, rfl⟩ | ⟨rfl, rfl, t1, t2⟩ | ⟨rfl, rfl, rfl⟩
                · have t1 : (fr != 0) = true := by simpa using t1
                  go_wp2_with fail
                  refine region_later (by kernel_rfl) (by kernel_rfl) ?_
                  repeat (go_big_quiet_step ((with_reducible refine Gives.later (FI _ Sx))))
                  refine wpQuiet_nil ?_
                  rintro _ ⟨z3, rfl⟩
                  go_wp2_with fail
                  refine region_later (by kernel_rfl) (by kernel_rfl) ?_
                  repeat (go_big_quiet_step ((with_reducible refine Gives.later (OP _ Sx))))
                  refine wpQuiet_nil ?_
                  rintro _ ⟨z4, rfl⟩
                  go_wp2_with fail
                  go_returns
                  exact ⟨by rw [HV.out]; simp [t2], Lx⟩
                · go_wp2_with fail
                  refine region_later (by kernel_rfl) (by kernel_rfl) ?_
                  repeat (go_big_quiet_step ((with_reducible refine Gives.later (FI _ Sx))))
                  refine wpQuiet_nil ?_
                  rintro _ ⟨z3, rfl⟩
                  go_wp2_with fail
                  refine region_later (by kernel_rfl) (by kernel_rfl) ?_
                  repeat (go_big_quiet_step ((with_reducible refine Gives.later (OP _ Sx))))
                  refine wpQuiet_nil ?_
                  rintro _ ⟨z4, rfl⟩
                  go_wp2_with fail
                  go_returns
                  exact ⟨by rw [HV.out]; simp, Lx⟩
                · go_wp2_with fail
                  refine region_later (by kernel_rfl) (by kernel_rfl) ?_
                  repeat (go_big_quiet_step ((with_reducible refine Gives.later (FI _ Sx))))
                  refine wpQuiet_nil ?_
                  rintro _ ⟨z3, rfl⟩
                  go_wp2_with fail
                  refine region_later (by kernel_rfl) (by kernel_rfl) ?_
                  repeat (go_big_quiet_step ((with_reducible refine Gives.later (OP _ Sx))))
                  refine wpQuiet_nil ?_
                  rintro _ ⟨z4, rfl⟩
                  go_wp2_with fail
                  go_returns
                  exact ⟨by rw [HV.out]; simp [t2], Lx⟩
                · simp only [beq_self_eq_true, Bool.and_self] at HV
                  go_wp2_with fail
                  refine region_later (by kernel_rfl) (by kernel_rfl) ?_
                  repeat (go_big_quiet_step ((with_reducible refine Gives.later (FI _ Sx))))
                  refine wpQuiet_nil ?_
                  rintro _ ⟨z3, rfl⟩
                  go_wp2_with fail
                  refine region_later (by kernel_rfl) (by kernel_rfl) ?_
                  repeat (go_big_quiet_step ((with_reducible refine Gives.later (OP _ Sx))))
                  refine wpQuiet_nil ?_
                  rintro _ ⟨z4, rfl⟩
                  go_wp2_with fail
                  clear FI OP c0 c1 c2 j0 j1 j2 j3 j4 j5
                  go_loopg [15] l.length (fun gas s15 wr => ∃ k : Nat, k ≤ l.length ∧ l.length - k ≤ gas ∧ s15 = .int .i64 k ∧ LaterOf z4.wd wr ∧ q5 = (l.drop k).any (clashR ⟨some ⟨gc, oc, none⟩, sc, cals, sB, sd, R, most⟩ L ⟨jn, mn, xs, fe⟩))
                  case atStart => exact ⟨0, by omega, by omega, rfl, Lx, by rw [List.drop_zero]; exact HN.out.2.2.2.2.2.1⟩
                  case round =>
                    obtain ⟨n, hn, hgas3, rfl, ⟨z5, rfl⟩, hq⟩ := hrel
                    by_cases hltn : n < l.length
                    · rw [any_drop _ hltn, HN.out.2.2.2.2.2.2.1] at hq
                      have hrl' := HN.out.1.of (w' := z5.wd) Sx
                      obtain ⟨g, off, rfl, hr⟩ := hrl'.at_ (by omega)
                      have hO := hr.there
                      have s0 := hr.s0 n hltn
                      have s1 := hr.s1 n hltn
                      have s2 := hr.s2 n hltn
                      have s3 := hr.s3 n hltn
                      have hyj := (nameB_iff.1 (HN.out.2.1 _ (List.getElem_mem hltn))).1
                      have F1 := FO1 _ hyj
                      have F2 := FO2 _ hyj
                      generalize followsR ⟨some ⟨gc, oc, none⟩, sc, cals, sB, sd, R, most⟩ L ⟨jn, mn, xs, fe⟩ l[n] = b1 at *
                      generalize followsR ⟨some ⟨gc, oc, none⟩, sc, cals, sB, sd, R, most⟩ L l[n] ⟨jn, mn, xs, fe⟩ = b2 at *
                      generalize l[n] = y at *
                      obtain ⟨yj, ym, ys, ye⟩ := y
                      simp only at *
                      clear hr hrl' hyj
                      by_cases hm : ym = (mn : Int)
                      · have F3 := F2 hm
                        clear F2
                        subst hm
                        rw [show ((mn : Int) == (mn : Int)) = true from by simp, Bool.true_and] at hq
                        cases b1
                        · cases b2
                          · simp only [Bool.not_false, Bool.and_self, Bool.true_or] at hq
                            have HQ := Lib.hid hq
                            clear hq
                            go_wp2_with fail
                            refine (F1 _ Sx).calls.mono ?_
                            rintro e _ ⟨rfl, x1, rfl⟩
                            go_wp2_with fail
                            refine (F3 _ Sx).calls.mono ?_
                            rintro e _ ⟨rfl, x2, rfl⟩
                            go_wp2_with fail
                            go_returns
                            exact ⟨by rw [HV.out, HQ.out]; rfl, Lx⟩
                          · simp only [Bool.not_false, Bool.not_true, Bool.and_false, Bool.false_or] at hq
                            have HQ := Lib.hid hq
                            clear hq
                            go_wp2_with fail
                            refine (F1 _ Sx).calls.mono ?_
                            rintro e _ ⟨rfl, x1, rfl⟩
                            go_wp2_with fail
                            refine (F3 _ Sx).calls.mono ?_
                            rintro e _ ⟨rfl, x2, rfl⟩
                            go_wp2_with fail
                            go_roundg (l.length - (n + 1))
                            case measure => omega
                            case rel => exact ⟨n + 1, hltn, Nat.le_refl _, by go_num, Lx, HQ.out⟩
                        · simp only [Bool.not_true, Bool.false_and, Bool.false_or] at hq
                          have HQ := Lib.hid hq
                          clear hq
                          go_wp2_with fail
                          refine (F1 _ Sx).calls.mono ?_
                          rintro e _ ⟨rfl, x1, rfl⟩
                          go_wp2_with fail
                          go_roundg (l.length - (n + 1))
                          case measure => omega
                          case rel => exact ⟨n + 1, hltn, Nat.le_refl _, by go_num, Lx, HQ.out⟩
                      · have e : (ym == (mn : Int)) = false := by simpa using hm
                        rw [e, Bool.false_and, Bool.false_or] at hq
                        have HQ := Lib.hid hq
                        clear hq hm F1 F2 FO1 FO2
                        go_wp2_with fail
                        go_roundg (l.length - (n + 1))
                        case measure => omega
                        case rel => exact ⟨n + 1, hltn, Nat.le_refl _, by go_num, Lx, HQ.out⟩
                    · have hnl : n = l.length := by omega
                      rw [hnl, List.drop_length] at hq
                      have HQ := Lib.hid hq
                      clear hq hnl
                      go_wp2_with fail
                      go_returns
                      exact ⟨by rw [HV.out, HQ.out]; rfl, Lx⟩
end Go.Proofs.YtpaojgfmffkodaaGreat
/- Layer 52 (the reference): open. -/
namespace Go.Proofs.YtpaojgfmffkodaaGreat
set_option linter.unusedVariables false
set_option linter.unusedSimpArgs false
open Go.RowKit Go.Sort
attribute [local go_sem ↓] Go.wp_at_zero Go.wp_at_succ
theorem firstN_succ (L : List JobR) (l : List SlotR) (k i : Nat) : firstN L l k (i + 1) = (firstN L l k i && (!(ordK L l i == ordK L l k) || decide (k ≤ i))) := by
  unfold firstN; rw [List.range_succ, List.all_append]; simp
theorem any_take_succ {α : Type} (p : α → Bool) {l : List α} {i : Nat} (h : i < l.length) : (l.take (i + 1)).any p = ((l.take i).any p || p l[i]) := by
  rw [List.take_succ_eq_append_getElem h, List.any_append]; simp
theorem ordK_at {L : List JobR} {l : List SlotR} {k : Nat} (h : k < l.length) : ordK L l k = (jobAt L l[k].job).ord := by unfold ordK ordAt; rw [getS_at h]
set_option maxRecDepth 100000 in
set_option maxHeartbeats 16000000 in
theorem refOpen52_any (A : Option Addr) (c : Nat) (L : List JobR) (B : Option Addr) (d : Nat) (l : List SlotR) (t : Int) (w : World) (h : IsJobs w A c L) (hl : IsSlots w B d l) (hll : l.length < 4611686018427387904) (hn : ∀ y ∈ l, 0 ≤ y.job ∧ y.job < L.length) :
    Gives Tryz.prog 81 #[.slice A L.length c, .slice B l.length d, .int .i64 t] w (.int .i64 (openR L t l)) := by
  apply Gives.ret
  have hjl := h.len
  have H := Lib.hid (And.intro h (And.intro hl hn))
  clear h hl hn
  go_enter Tryz.func81, Tryz.ntmps81
  go_wp2_with fail
  go_loopg [7, 8] l.length (fun gas s7 s8 wr => ∃ k : Nat, k ≤ l.length ∧ l.length - k ≤ gas ∧ s7 = .int .i64 (openTR L t l k) ∧ s8 = .int .i64 k ∧ LaterOf w wr)
  case atStart => exact ⟨0, by omega, by omega, rfl, rfl, Lx⟩
  case round =>
    obtain ⟨k, hk, hgas, rfl, rfl, ⟨z, rfl⟩⟩ := hrel
    by_cases hlt : k < l.length
    · have hst := openTR_succ L t l k
      have hle := openTR_le L t l k
      have hsr : stepR L t l k = (firstN L l k l.length && (begunI L t l (ordK L l k) && runI L t l (ordK L l k))) := rfl
      have hrl' := H.out.2.1.of (w' := z.wd) Sx
      have hjl' := H.out.1.of (w' := z.wd) Sx
      have hkj := H.out.2.2 _ (List.getElem_mem hlt)
      obtain ⟨g, off, rfl, hr⟩ := hrl'.at_ (by omega)
      obtain ⟨gj, oj, rfl, hrj⟩ := hjl'.row.at_ (by omega)
      have hO := hr.there
      have hOj := hrj.there
      have s0 := hr.s0 k hlt
      obtain ⟨jn, ejn⟩ : ∃ m : Nat, l[k].job = m := ⟨l[k].job.toNat, by omega⟩
      have hjn : jn < L.length := by omega
      have jc := hrj.j5 jn hjn
      have hok : L[jn].ord = ordK L l k := by rw [ordK_at hlt, ejn, jobAt_at hjn]
      rw [hok] at jc
      rw [ejn] at s0
      generalize hoo : ordK L l k = o at *
      generalize openTR L t l k = cn at *
      have HR := Lib.hid (And.intro hr hrj)
      have HS := Lib.hid (And.intro hst (And.intro hsr hoo))
      clear hr hrj hrl' hjl' hok ejn hst hsr hoo hkj
      go_wp2_with fail
      go_loopg [10, 11, 12, 13] l.length (fun gas s10 s11 s12 s13 wr => ∃ i : Nat, i ≤ l.length ∧ l.length - i ≤ gas ∧ s10 = .bool (firstN L l k i) ∧ s11 = .bool ((l.take i).any fun x => ordAt L x == o && decide (x.start ≤ t)) ∧ s12 = .bool ((l.take i).any fun x => ordAt L x == o && decide (t < x.stop)) ∧ s13 = .int .i64 i ∧ LaterOf z.wd wr)
      case atStart => exact ⟨0, by omega, by omega, rfl, rfl, rfl, rfl, Lx⟩
      case round =>
        obtain ⟨i, hi, hgas2, rfl, rfl, rfl, rfl, ⟨z2, rfl⟩⟩ := hrel
        by_cases hlti : i < l.length
        · have f1 := firstN_succ L l k i
          have f2 := any_take_succ (fun x => ordAt L x == o && decide (x.start ≤ t)) hlti
          have f3 := any_take_succ (fun x => ordAt L x == o && decide (t < x.stop)) hlti
          have e3 : ordAt L l[i] = ordK L l i := by unfold ordK; rw [getS_at hlti]
          rw [HS.out.2.2] at f1
          rw [e3] at f2 f3
          have s1 := HR.out.1.s0 i hlti
          have s2 := HR.out.1.s2 i hlti
          have s3 := HR.out.1.s3 i hlti
          have hkj := H.out.2.2 _ (List.getElem_mem hlti)
          obtain ⟨jm, ejm⟩ : ∃ m : Nat, l[i].job = m := ⟨l[i].job.toNat, by omega⟩
          have hjm : jm < L.length := by omega
          have jd := HR.out.2.j5 jm hjm
          have hok : L[jm].ord = ordK L l i := by rw [ordK_at hlti, ejm, jobAt_at hjm]
          rw [hok] at jd
          rw [ejm] at s1
          generalize ordK L l i = oi at *
          generalize l[i].start = xs at *
          generalize l[i].stop = xe at *
          generalize firstN L l k i = b1 at *
          generalize ((l.take i).any fun x => ordAt L x == o && decide (x.start ≤ t)) = b2 at *
          generalize ((l.take i).any fun x => ordAt L x == o && decide (t < x.stop)) = b3 at *
          clear hkj ejm hok e3
          by_cases he : oi = o
          · have e : (oi == o) = true := by simpa using he
            rw [e] at f1 f2 f3
            have HF := Lib.hid (And.intro f1 (And.intro f2 f3))
            clear f1 f2 f3 he
            cases b1 <;> cases b2 <;> cases b3
            all_goals
              go_wp2_with fail
              go_roundg (l.length - (i + 1))
              case measure => omega
              case rel => exact ⟨i + 1, hlti, Nat.le_refl _, by rw [HF.out.1]; simp, by rw [HF.out.2.1]; simp, by rw [HF.out.2.2]; simp, by go_num, Lx⟩
          · have e : (oi == o) = false := by simpa using he
            rw [e] at f1 f2 f3
            have HF := Lib.hid (And.intro f1 (And.intro f2 f3))
            clear f1 f2 f3 he s2 s3
            go_wp2_with fail
            go_roundg (l.length - (i + 1))
            case measure => omega
            case rel => exact ⟨i + 1, hlti, Nat.le_refl _, by rw [HF.out.1]; simp, by rw [HF.out.2.1]; simp, by rw [HF.out.2.2]; simp, by go_num, Lx⟩
        · have hil : i = l.length := by omega
          have e1 : firstN L l k i = firstN L l k l.length := by rw [hil]
          have e2 : ((l.take i).any fun x => ordAt L x == o && decide (x.start ≤ t)) = begunI L t l o := by rw [hil, List.take_length]; rfl
          have e3 : ((l.take i).any fun x => ordAt L x == o && decide (t < x.stop)) = runI L t l o := by rw [hil, List.take_length]; rfl
          rw [e1, e2, e3]
          have hs1 := HS.out.1
          rw [HS.out.2.1] at hs1
          generalize firstN L l k l.length = b1 at *
          generalize begunI L t l o = b2 at *
          generalize runI L t l o = b3 at *
          have HC := Lib.hid hs1
          clear e1 e2 e3 hs1 hil s0 jc
          cases b1 <;> cases b2 <;> cases b3
          all_goals
            go_wp2_with fail
            go_roundg (l.length - (k + 1))
            case measure => omega
            case rel => exact ⟨k + 1, hlt, Nat.le_refl _, by rw [HC.out]; simp, by go_num, Lx⟩
    · have hkl : k = l.length := by omega
      have e : openR L t l = openTR L t l k := by rw [hkl]; rfl
      generalize openTR L t l k = v at *
      have HE := Lib.hid e
      clear e hkl
      go_wp2_with fail
      go_returns
      exact ⟨by rw [HE.out]; rfl, Lx⟩
end Go.Proofs.YtpaojgfmffkodaaGreat
/- Layer 52 (the reference): Valid. -/
namespace Go.Proofs.YtpaojgfmffkodaaGreat
set_option linter.unusedVariables false
set_option linter.unusedSimpArgs false
open Go.RowKit Go.Sort
attribute [local go_sem ↓] Go.wp_at_zero Go.wp_at_succ
set_option maxRecDepth 100000 in
set_option maxHeartbeats 8000000 in
theorem refValid52_any (s : ShopR) (A : Option Addr) (c : Nat) (L : List JobR) (B : Option Addr) (d : Nat) (l : List SlotR) (w : World) (hs : IsShop w s) (h : IsJobs w A c L) (hl : IsSlots w B d l) (hll : l.length < 4611686018427387904) (hcap : l.length ≤ d) :
    Gives Tryz.prog 42 #[shopV s, .slice A L.length c, .slice B l.length d] w (.tuple #[.int .i64 (validT s L l).1, .int .i64 (validT s L l).2]) := by
  apply Gives.ret
  have CH := fun W hW => refCheck52_any s A c L W (hs.of hW) (h.of hW)
  rw [← validRT_eq]
  cases hc : refCheckB s L
  · rw [hc] at CH
    rw [if_neg (by simp)]
    clear hs h hl hc
    obtain ⟨sA, sc, cals, sB, sd, R, most⟩ := s
    go_enter Tryz.func42, Tryz.ntmps42
    go_wp2_with fail
    refine (CH _ Sx).calls.mono ?_
    rintro e _ ⟨rfl, x1, rfl⟩
    go_wp2_with fail
    go_returns
    exact ⟨rfl, Lx⟩
  · rw [if_pos rfl]
    have gp := check_good (by rw [← refCheck_eq]; exact hc)
    rw [hc] at CH
    obtain ⟨v1, hv1⟩ : ∃ v, v = (validR s L l).1 := ⟨_, rfl⟩
    obtain ⟨v2, hv2⟩ : ∃ v, v = (validR s L l).2 := ⟨_, rfl⟩
    have SL := fun (k : Nat) (hk : k ≤ l.length) (hn : NamedS s L (l.take k)) x W (hW : SinceOf w W) => refFits_any s A c L B d (l.take k) x W (hs.of hW) (h.of hW) gp ((hl.take k).of hW) (by rw [List.length_take]; omega) hn
    have HO := Lib.hid (And.intro hl (And.intro h (And.intro hv1 hv2)))
    rw [← hv1, ← hv2]
    have hnr : ∀ k, fitR s L l k = 0 → nameB s L (l.getD k noSlot) = true := by
      intro k e
      unfold fitR slotR at e
      cases hn : nameB s L (l.getD k noSlot)
      · rw [if_pos hn] at e; cases e
      · rfl
    obtain ⟨sA, sc, cals, sB, sd, R, most⟩ := s
    have HN := Lib.hid hnr
    clear hs h gp hl hv1 hv2 hc hnr
    go_enter Tryz.func42, Tryz.ntmps42
    go_wp2_with fail
    refine (CH _ Sx).calls.mono ?_
    rintro e _ ⟨rfl, x1, rfl⟩
    clear CH
    go_wp2_with fail
    go_loopg [8] l.length (fun gas s8 wr => ∃ k : Nat, k ≤ l.length ∧ l.length - k ≤ gas ∧ s8 = .int .i64 k ∧ LaterOf x1.wd wr ∧ NamedS ⟨sA, sc, cals, sB, sd, R, most⟩ L (l.take k) ∧
      firstBad (fitR ⟨sA, sc, cals, sB, sd, R, most⟩ L l) (List.range l.length) = firstBad (fitR ⟨sA, sc, cals, sB, sd, R, most⟩ L l) ((List.range l.length).drop k))
    case atStart => exact ⟨0, by omega, by omega, rfl, Lx, (by intro y hy; simp at hy), by rw [List.drop_zero]⟩
    case round =>
      obtain ⟨k, hk, hgas, rfl, ⟨z, rfl⟩, hnam, hfb⟩ := hrel
      by_cases hlt : k < l.length
      · rw [firstBad_drop _ hlt] at hfb
        have SK := SL k hk hnam l[k]
        have hfe : fitR ⟨sA, sc, cals, sB, sd, R, most⟩ L l k = slotR ⟨sA, sc, cals, sB, sd, R, most⟩ L (l.take k) l[k] := by unfold fitR; rw [getS_at hlt]
        rw [show (l.take k).length = k from by rw [List.length_take]; omega, ← hfe] at SK
        have hrl := HO.out.1.of (w' := z.wd) Sx
        obtain ⟨g, off, rfl, hr⟩ := hrl.at_ (by omega)
        have hO := hr.there
        have s0 := hr.s0 k hlt
        have s1 := hr.s1 k hlt
        have s2 := hr.s2 k hlt
        have s3 := hr.s3 k hlt
        have hkd : k ≤ d := by omega
        have hnext : fitR ⟨sA, sc, cals, sB, sd, R, most⟩ L l k = 0 → NamedS ⟨sA, sc, cals, sB, sd, R, most⟩ L (l.take (k + 1)) := by
          intro e y hy
          rw [List.take_succ_eq_append_getElem hlt, List.mem_append] at hy
          rcases hy with hy | hy
          · exact hnam y hy
          · rw [List.mem_singleton] at hy
            have := HN.out k e
            rw [getS_at hlt] at this
            rw [hy]; exact this
        generalize l[k] = x at *
        generalize fitR ⟨sA, sc, cals, sB, sd, R, most⟩ L l k = fe at *
        have HF := Lib.hid (And.intro hfb hnext)
        clear hfb hnext hnam hfe hr hrl
        by_cases h0 : fe = 0
        · subst h0
          go_wp2_with fail
          refine region_later (by kernel_rfl) (by kernel_rfl) ?_
          repeat (go_big_quiet_step ((with_reducible refine Gives.later (SK _ Sx))))
          refine wpQuiet_nil ?_
          rintro _ ⟨z2, rfl⟩
          go_wp2_with fail
          go_roundg (l.length - (k + 1))
          case measure => omega
          case rel => exact ⟨k + 1, hlt, Nat.le_refl _, by go_num, Lx, HF.out.2 (by trivial), by rw [HF.out.1, if_pos (by trivial)]⟩
        · have hne : (fe != 0) = true := by simpa using h0
          have HN := Lib.hid h0
          clear h0
          go_wp2_with fail
          refine region_later (by kernel_rfl) (by kernel_rfl) ?_
          repeat (go_big_quiet_step ((with_reducible refine Gives.later (SK _ Sx))))
          refine wpQuiet_nil ?_
          rintro _ ⟨z2, rfl⟩
          go_wp2_with fail
          go_returns
          have hvv : validR ⟨sA, sc, cals, sB, sd, R, most⟩ L l = ((k : Int), fe) := by unfold validR; rw [HF.out.1, if_neg HN.out]
          refine ⟨?_, Lx⟩
          rw [HO.out.2.2.1, HO.out.2.2.2, hvv]
          try rfl
      · have hkl : k = l.length := by omega
        rw [hkl, firstBad_end] at hfb
        rw [hkl, List.take_length] at hnam
        have OP := fun t W (hW : SinceOf w W) => refOpen52_any A c L B d l t W (HO.out.2.1.of hW) (HO.out.1.of hW) hll (fun y hy => (nameB_iff.1 (hnam y hy)).1)
        have HF := Lib.hid hfb
        clear hfb hnam hkl SL
        go_wp2_with fail
        go_loopg [10] l.length (fun gas s10 wr => ∃ k : Nat, k ≤ l.length ∧ l.length - k ≤ gas ∧ s10 = .int .i64 k ∧ LaterOf x1.wd wr ∧
          firstBad (openRE ⟨sA, sc, cals, sB, sd, R, most⟩ L l) (List.range l.length) = firstBad (openRE ⟨sA, sc, cals, sB, sd, R, most⟩ L l) ((List.range l.length).drop k))
        case atStart => exact ⟨0, by omega, by omega, rfl, Lx, by rw [List.drop_zero]⟩
        case round =>
          obtain ⟨i, hi, hgas2, rfl, ⟨z3, rfl⟩, hfb2⟩ := hrel
          by_cases hlti : i < l.length
          · rw [firstBad_drop _ hlti] at hfb2
            have hoe : openRE ⟨sA, sc, cals, sB, sd, R, most⟩ L l i = if most < openR L l[i].start l then 28 else 0 := by unfold openRE; rw [getS_at hlti]
            have OK := OP l[i].start
            have hrl := HO.out.1.of (w' := z3.wd) Sx
            obtain ⟨g, off, rfl, hr⟩ := hrl.at_ (by omega)
            have hO := hr.there
            have s0 := hr.s0 i hlti
            have s1 := hr.s1 i hlti
            have s2 := hr.s2 i hlti
            have s3 := hr.s3 i hlti
            generalize l[i].start = xs at *
            generalize l[i].stop = xe at *
            generalize l[i].mach = xm at *
            generalize l[i].job = xj at *
            generalize openR L xs l = on at *
            clear hr hrl
            by_cases hlt3 : most < on
            · rw [hoe, if_pos hlt3, if_neg (by omega)] at hfb2
              have hd : decide (most < on) = true := by simpa using hlt3
              have HG := Lib.hid hfb2
              clear hfb2 hoe hlt3
              go_wp2_with fail
              refine region_later (by kernel_rfl) (by kernel_rfl) ?_
              repeat (go_big_quiet_step ((with_reducible refine Gives.later (OK _ Sx))))
              refine wpQuiet_nil ?_
              rintro _ ⟨z4, rfl⟩
              go_wp2_with fail
              go_returns
              have hvv : validR ⟨sA, sc, cals, sB, sd, R, most⟩ L l = ((i : Int), 28) := by unfold validR; rw [HF.out, HG.out]
              refine ⟨?_, Lx⟩
              rw [HO.out.2.2.1, HO.out.2.2.2, hvv]
              try rfl
            · rw [hoe, if_neg hlt3, if_pos rfl] at hfb2
              have hd : decide (most < on) = false := by simpa using hlt3
              have HG := Lib.hid hfb2
              clear hfb2 hoe hlt3
              go_wp2_with fail
              refine region_later (by kernel_rfl) (by kernel_rfl) ?_
              repeat (go_big_quiet_step ((with_reducible refine Gives.later (OK _ Sx))))
              refine wpQuiet_nil ?_
              rintro _ ⟨z4, rfl⟩
              go_wp2_with fail
              go_roundg (l.length - (i + 1))
              case measure => omega
              case rel => exact ⟨i + 1, hlti, Nat.le_refl _, by go_num, Lx, HG.out⟩
          · have hil : i = l.length := by omega
            rw [hil, firstBad_end] at hfb2
            have HG := Lib.hid hfb2
            clear hfb2 hil
            go_wp2_with fail
            go_returns
            have hvv : validR ⟨sA, sc, cals, sB, sd, R, most⟩ L l = ((l.length : Int), 0) := by unfold validR; rw [HF.out, HG.out]
            refine ⟨?_, Lx⟩
            rw [HO.out.2.2.1, HO.out.2.2.2, hvv]
            try rfl
end Go.Proofs.YtpaojgfmffkodaaGreat
/- Layer 52 (the reference): Candidates. -/
namespace Go.Proofs.YtpaojgfmffkodaaGreat
set_option linter.unusedVariables false
set_option linter.unusedSimpArgs false
open Go.RowKit Go.Sort
attribute [local go_sem ↓] Go.wp_at_zero Go.wp_at_succ
def posU (t : Int) (out : List Int) : Nat := (out.takeWhile (fun y => decide (y < t))).length
theorem posU_le (t : Int) (out : List Int) : posU t out ≤ out.length := by unfold posU; exact (List.takeWhile_sublist _).length_le
theorem posU_is (t : Int) (out : List Int) (k : Nat) (hk : k ≤ out.length) (h : ∀ j (hj : j < k), out[j] < t) (hs : ∀ (hlt : k < out.length), ¬ out[k] < t) : posU t out = k := by
  unfold posU
  induction out generalizing k with
  | nil => simp at hk; simp [hk]
  | cons y out ih =>
    cases k with
    | zero =>
      have := hs (by simp)
      simp only [List.getElem_cons_zero] at this
      simp [this]
    | succ k =>
      have h0 := h 0 (by omega)
      simp only [List.getElem_cons_zero] at h0
      rw [List.takeWhile_cons, if_pos (by simpa using h0), List.length_cons, ih k (by simpa using hk) (fun j hj => by simpa using h (j + 1) (by omega)) (fun hlt => hs (Nat.succ_lt_succ hlt))]
theorem insU_pos (t : Int) : ∀ out : List Int, insU t out = if out[posU t out]? = some t then out else out.take (posU t out) ++ t :: out.drop (posU t out)
  | [] => by simp [insU, posU]
  | y :: r => by
    have ih := insU_pos t r
    unfold insU
    by_cases h : y < t
    · rw [if_pos h, ih, show posU t (y :: r) = posU t r + 1 from by simp [posU, h]]
      simp only [List.getElem?_cons_succ, List.take_succ_cons, List.drop_succ_cons]
      split <;> simp
    · rw [if_neg h, show posU t (y :: r) = 0 from by simp [posU, h]]
      simp
theorem insU_length (t : Int) : ∀ out : List Int, (insU t out).length ≤ out.length + 1
  | [] => by simp [insU]
  | y :: r => by
    have := insU_length t r
    unfold insU
    split
    · simp; omega
    · split <;> simp
def candTo (s : ShopR) (m : Int) (ts : List Int) (k : Nat) : List Int := (ts.take k).foldl (candStep s m) []
theorem candTo_succ (s : ShopR) (m : Int) (ts : List Int) (k : Nat) (h : k < ts.length) : candTo s m ts (k + 1) = candStep s m (candTo s m ts k) ts[k] := by
  unfold candTo; rw [List.take_succ_eq_append_getElem h, List.foldl_append]; rfl
theorem candTo_length (s : ShopR) (m : Int) (ts : List Int) : ∀ k, k ≤ ts.length → (candTo s m ts k).length ≤ k
  | 0, _ => by simp [candTo]
  | k + 1, hk => by
    rw [candTo_succ s m ts k hk]
    have := candTo_length s m ts k (by omega)
    unfold candStep
    split
    · have := insU_length (nextAt s m ts[k]).1 (candTo s m ts k); omega
    · omega
theorem endsOf_le (b : Int) (l : List SlotR) : (endsOf b l).length ≤ l.length := by
  unfold endsOf; rw [List.length_map]; exact List.length_filter_le _ _
theorem ownsN_empty (W : World) (b : Nat) (hb : b ≤ W.heap.size) : Owns encN 1 b 3 (W.alloc (.cells #[] 3)) (some ⟨W.heap.size, 0, none⟩) 0 [] :=
  World.ownsRow_lit (base := b) (e := 3) (size := 1) W #[] 0 hb (Nat.zero_le _) rfl
theorem rowN_one (W : World) (x : Int) : RowAt encN 1 (W.alloc (.cells #[.int .i64 x] 3)) W.heap.size 0 [x] := by
  refine ⟨fun i hi j u hu => ?_, inferInstance⟩
  obtain rfl : i = 0 := by simpa using hi
  match j, hu with
  | 0, hu => simp [encN] at hu; subst hu; simp
  | j + 1, hu => simp [encN] at hu
def hasU (out : List Int) (p : Nat) (t : Int) : Bool := decide (out[p]? = some t)
set_option maxRecDepth 100000 in
set_option maxHeartbeats 16000000 in
theorem refCand_any (s : ShopR) (A : Option Addr) (c : Nat) (L : List JobR) (B : Option Addr) (d : Nat) (l : List SlotR) (jb m : Nat) (w : World) (hs : IsShop w s) (h : IsJobs w A c L) (gp : GoodP s L) (hl : IsSlots w B d l) (hll : l.length < 1073741824) (hn : NamedS s L l) (hjb : jb < L.length) (hm : m < s.cals.length) :
    Calls Tryz.prog 136 #[shopV s, .slice A L.length c, .slice B l.length d, .int .i64 jb, .int .i64 m] w fun e w' => ∃ A' c', e = .returned (.slice A' (candV s L l jb m).length c') ∧ IsInts w' A' c' (candV s L l jb m) ∧ SinceOf w w' := by
  have hcl := hs.cals.len
  have hrl := hs.rows.len
  have hjl := h.len
  have hka := hs.cals.all _ (List.getElem_mem hm)
  have NX := fun t W hW => refNext_any (w := W) t (hka.of hW)
  have en : ∀ t, nextAt s m t = nextV s.cals[m].P s.cals[m].S s.cals[m].D t := fun t => by unfold nextAt; rw [calAt_at hm]
  obtain ⟨gc, oc, hAc, hrc⟩ := hs.cals.row.at_ (by omega)
  obtain ⟨gj, oj, hAj, hrj⟩ := h.row.at_ (by omega)
  have hOc := hrc.there
  have hOj := hrj.there
  have c0 := hrc.k0 m hm
  have c1 := hrc.k1 m hm
  have c2 := hrc.k2 m hm
  have i2 := hrj.j2 jb hjb
  have i3 := hrj.j3 jb hjb
  obtain ⟨cb0, cb1⟩ := gp.cls _ (List.getElem_mem hjb)
  obtain ⟨q, hq⟩ : ∃ q : Nat, L[jb].cls = q := ⟨L[jb].cls.toNat, by omega⟩
  have hq' : q < s.rows.length := by omega
  rw [hq] at i2
  have RD := fun (x : SlotR) (hx : nameB s L x = true) W (hW : SinceOf w W) => refReady_any s A c L x q W (hs.of hW) (h.of hW) gp (nameB_iff.1 hx).2 (nameB_iff.1 hx).1 hq'
  have eset : ∀ a, setupAt s L a jb = get2 s.rows (jobAt L a).cls.toNat q := fun a => by unfold setupAt; rw [jobAt_at hjb, hq]; rfl
  have erel : (jobAt L jb).rel = L[jb].rel := by rw [jobAt_at hjb]
  obtain ⟨res, hres⟩ : ∃ v, v = candV s L l jb m := ⟨_, rfl⟩
  rw [← hres]
  unfold candV at hres
  rw [erel] at hres
  generalize L[jb].rel = rel at *
  obtain ⟨bv, hbv⟩ : ∃ v, v = beginV s L jb m rel l := ⟨_, rfl⟩
  rw [← hbv] at hres
  obtain ⟨i0, hi, hz0, hz1, hz2⟩ := info_parts infoInt
  have HI := Lib.hid (And.intro hi (And.intro hz0 (And.intro hz1 hz2)))
  obtain ⟨sA, sc, cals, sB, sd, R, most⟩ := s
  simp only at *
  subst hAc hAj
  have H := Lib.hid (And.intro hl (And.intro hn (And.intro hres (And.intro hbv (And.intro eset (And.intro en (And.intro RD NX)))))))
  generalize cals[m] = K at *
  clear hs h gp hl hn hres hbv hrj hrc hq en eset erel hka cb0 cb1 RD NX hi hz0 hz1 hz2
  go_enter Tryz.func136, Tryz.ntmps136
  go_wp2_with fail
  go_loopg [11, 12] l.length (fun gas s11 s12 wr => ∃ (k : Nat) (b : Int), k ≤ l.length ∧ l.length - k ≤ gas ∧ s11 = .int .i64 b ∧ s12 = .int .i64 k ∧ LaterOf (w.alloc (.cells #[.slice (some ⟨gc, oc, none⟩) cals.length sc, .slice sB R.length sd, .int .i64 most] 25)) wr ∧ bv = beginV ⟨some ⟨gc, oc, none⟩, sc, cals, sB, sd, R, most⟩ L jb m b (l.drop k))
  case atStart => exact ⟨0, rel, by omega, by omega, rfl, rfl, Lx, by rw [List.drop_zero]; exact H.out.2.2.2.1⟩
  case round =>
    obtain ⟨k, b, hk, hgas, rfl, rfl, ⟨z, rfl⟩, hb⟩ := hrel
    by_cases hlt : k < l.length
    · rw [beginV_drop _ _ _ _ _ hlt] at hb
      have hrl' := H.out.1.of (w' := z.wd) Sx
      obtain ⟨gs, os, rfl, hrs⟩ := hrl'.at_ (by omega)
      have hOs := hrs.there
      have s0 := hrs.s0 k hlt
      have s1 := hrs.s1 k hlt
      have s2 := hrs.s2 k hlt
      have s3 := hrs.s3 k hlt
      have RK := H.out.2.2.2.2.2.2.1 l[k] (H.out.2.1 _ (List.getElem_mem hlt))
      rw [← H.out.2.2.2.2.1] at RK
      generalize l[k] = y at *
      obtain ⟨yj, ym, ys, ye⟩ := y
      simp only at s0 s1 s2 s3 hb RK
      clear hrs hrl'
      by_cases hmm : ym = (m : Int)
      · rw [if_pos hmm] at hb
        subst hmm
        generalize finishAt ⟨some ⟨gc, oc, none⟩, sc, cals, sB, sd, R, most⟩ m ye (setupAt ⟨some ⟨gc, oc, none⟩, sc, cals, sB, sd, R, most⟩ L yj jb) = fv at *
        obtain ⟨fe, fr⟩ := fv
        simp only at hb RK
        by_cases h0 : fr = 0
        · subst h0
          rw [if_pos rfl] at hb
          simp only [beq_self_eq_true] at RK
          have HB := Lib.hid hb
          clear hb
          go_wp2_with fail
          refine region_later (by kernel_rfl) (by kernel_rfl) ?_
          repeat (go_big_quiet_step ((with_reducible refine Gives.later (RK _ Sx))))
          refine wpQuiet_nil ?_
          rintro _ ⟨z2, rfl⟩
          go_wp2_with fail
          go_roundg (l.length - (k + 1))
          case measure => omega
          case rel => exact ⟨k + 1, imax b fe, hlt, Nat.le_refl _, rfl, by go_num, Lx, HB.out⟩
        · rw [if_neg h0] at hb
          have h0' : (fr == 0) = false := by simpa using h0
          rw [h0'] at RK
          have hr0 : res = [] := by rw [H.out.2.2.1, hb]
          have HB := Lib.hid hr0
          clear hb h0 hr0 h0'
          go_wp2_with fail
          refine region_later (by kernel_rfl) (by kernel_rfl) ?_
          repeat (go_big_quiet_step ((with_reducible refine Gives.later (RK _ Sx))))
          refine wpQuiet_nil ?_
          rintro _ ⟨z2, rfl⟩
          go_wp2_with fail
          go_returns
          refine ⟨none, 0, ?_, ?_, Sx⟩
          · rw [HB.out]; rfl
          · rw [HB.out]; exact IsRow.nil _ _ _
      · rw [if_neg hmm] at hb
        have h0' : (ym != (m : Int)) = true := by simpa using hmm
        have HB := Lib.hid hb
        clear hb hmm RK
        go_wp2_with fail
        go_roundg (l.length - (k + 1))
        case measure => omega
        case rel => exact ⟨k + 1, b, hlt, Nat.le_refl _, rfl, by go_num, Lx, HB.out⟩
    · have hkl : k = l.length := by omega
      rw [hkl, List.drop_length] at hb
      have hb2 : res = candL ⟨some ⟨gc, oc, none⟩, sc, cals, sB, sd, R, most⟩ m (b :: endsOf b l) := by rw [H.out.2.2.1, hb]; rfl
      have HB := Lib.hid hb2
      clear hb hkl hb2 i2 i3
      go_wp2_with fail
      go_loopg [15, 16] l.length (fun gas s15 s16 wr => ∃ (k : Nat) (A1 : Option Addr) (c1 : Nat), k ≤ l.length ∧ l.length - k ≤ gas ∧ s15 = .slice A1 (b :: endsOf b (l.take k)).length c1 ∧ s16 = .int .i64 k ∧ Owns encN 1 z.wd.heap.size 3 wr A1 c1 (b :: endsOf b (l.take k)) ∧ SinceOf z.wd wr)
      case atStart => exact ⟨0, _, 1, by omega, by omega, rfl, rfl, World.ownsRow_lit z.wd _ 1 (Nat.le_refl _) (by decide) rfl, Sx⟩
      case round =>
        obtain ⟨i, A1, c1, hi, hgas2, rfl, rfl, hown, ⟨z2, rfl⟩⟩ := hrel
        have hel := endsOf_le b (l.take i)
        rw [List.length_take] at hel
        by_cases hlti : i < l.length
        · have hsn := endsOf_snoc b hlti
          have hrl' := H.out.1.of (w' := z2.wd) Sx
          obtain ⟨gs, os, rfl, hrs⟩ := hrl'.at_ (by omega)
          have hOs := hrs.there
          have s3 := hrs.s3 i hlti
          generalize l[i].stop = ye at *
          generalize endsOf b (l.take i) = es at *
          have HO := Lib.hid (And.intro hown hsn)
          clear hrs hrl' hown hsn
          by_cases hby : b < ye
          · have hd : decide (b < ye) = true := by simpa using hby
            have hsz := z2.size
            go_wp2_with (at_builtin; refine wpList_append_row rfl (.tmp 75) (.tmp 81) 57 rfl encN_len (by omega) encN_one i0 _ 8 Tryz.underlying57 HI.out.1 HI.out.2.1 HI.out.2.2.1 HI.out.2.2.2 rfl (l := b :: es) (A := A1) (c := c1) (base := z.wd.heap.size) rfl (HO.out.1.of Sx) (m := [ye]) rfl (rowN_at _ _ _ _ (by first | rfl | simp)) (by unfold maxLen; simp; omega) (by simp; omega) (by simp; omega) ?_; intro E3 f3 w3 hown3 hgr3 hbl3)
            go_roundg (l.length - (i + 1))
            case measure => omega
            case rel =>
              have he : endsOf b (l.take (i + 1)) = es ++ [ye] := by rw [HO.out.2, if_pos hby]
              refine ⟨i + 1, E3, f3, hlti, Nat.le_refl _, ?_, by go_num, ?_, ?_⟩
              · rw [he]; (try simp); (try rfl)
              · rw [he]; exact hown3
              · refine SinceOf.grown Sx hgr3 ?_
                intro q hq
                exact (HO.out.1.below q hq).1
          · have hd : decide (b < ye) = false := by simpa using hby
            go_wp2_with fail
            go_roundg (l.length - (i + 1))
            case measure => omega
            case rel =>
              have he : endsOf b (l.take (i + 1)) = es := by rw [HO.out.2, if_neg (by omega), List.append_nil]
              refine ⟨i + 1, A1, c1, hlti, Nat.le_refl _, ?_, by go_num, ?_, Sx⟩
              · rw [he]; rfl
              · rw [he]; exact HO.out.1
        · have hil : i = l.length := by omega
          rw [hil, List.take_length] at hown
          rw [hil, List.take_length]
          have hts : 0 < (b :: endsOf b l).length := by simp
          have htl : (b :: endsOf b l).length ≤ l.length + 1 := by have := endsOf_le b l; simp; omega
          generalize b :: endsOf b l = ts at *
          obtain ⟨gt, ot, rfl, hrt⟩ := (hown.isRow encN_len).at_ hts
          have hOt := hrt.there
          have HT := Lib.hid hrt
          clear hown hrt hil hel
          go_wp2_with fail
          go_loopg [17, 18] ts.length (fun gas s17 s18 wr => ∃ (k : Nat) (A1 : Option Addr) (c1 : Nat), k ≤ ts.length ∧ ts.length - k ≤ gas ∧ s17 = .slice A1 (candTo ⟨some ⟨gc, oc, none⟩, sc, cals, sB, sd, R, most⟩ m ts k).length c1 ∧ s18 = .int .i64 k ∧ Owns encN 1 z2.wd.heap.size 3 wr A1 c1 (candTo ⟨some ⟨gc, oc, none⟩, sc, cals, sB, sd, R, most⟩ m ts k) ∧ SinceOf z2.wd wr)
          case atStart => exact ⟨0, none, 0, by omega, by omega, rfl, rfl, Owns.nil _ _ _ _ _, Sx⟩
          case round =>
            obtain ⟨n, A2, c2', hn, hgas3, rfl, rfl, hown, ⟨z3, rfl⟩⟩ := hrel
            by_cases hltn : n < ts.length
            · have hlen := candTo_length ⟨some ⟨gc, oc, none⟩, sc, cals, sB, sd, R, most⟩ m ts n hn
              have hsu := candTo_succ ⟨some ⟨gc, oc, none⟩, sc, cals, sB, sd, R, most⟩ m ts n hltn
              unfold candStep at hsu
              rw [H.out.2.2.2.2.2.1] at hsu
              have t0 := HT.out.n0 n hltn
              have NK := H.out.2.2.2.2.2.2.2 ts[n]
              generalize ts[n] = tn at *
              generalize candTo ⟨some ⟨gc, oc, none⟩, sc, cals, sB, sd, R, most⟩ m ts n = out at *
              simp only [pairV] at NK
              generalize nextV K.P K.S K.D tn = nv at *
              obtain ⟨t, te⟩ := nv
              simp only at hsu NK
              by_cases h0 : te = 0
              · subst h0
                rw [if_pos rfl] at hsu
                have hrow := hown.isRow encN_len
                have HO := Lib.hid (And.intro hown (And.intro hsu hrow))
                clear hown hsu hrow
                go_wp2_with fail
                refine region_later (by kernel_rfl) (by kernel_rfl) ?_
                repeat (go_big_quiet_step ((with_reducible refine Gives.later (NK _ Sx))))
                refine wpQuiet_nil ?_
                rintro _ ⟨z4, rfl⟩
                clear NK
                go_upto_block 6 with fail
                go_cut [21] (fun s21 wx => s21 = .int .i64 (posU t out) ∧ LaterOf z4.wd wx)
                case first =>
                  go_wp2_with fail
                  go_loopg [21] out.length (fun gas s21 wz => ∃ j : Nat, j ≤ out.length ∧ out.length - j ≤ gas ∧ s21 = .int .i64 j ∧ LaterOf z4.wd wz ∧ ∀ i (hi : i < j) (h2 : i < out.length), out[i] < t)
                  case atStart => exact ⟨0, by omega, by omega, rfl, Lx, by intro i hi; omega⟩
                  case round =>
                    obtain ⟨j, hj, hg, rfl, ⟨z5, rfl⟩, hall⟩ := hrel
                    have HA := Lib.hid hall
                    clear hall
                    by_cases hjl : j < out.length
                    · obtain ⟨g, off, rfl, hr⟩ := (HO.out.2.2.of (w' := z5.wd) Sx).at_ (by omega)
                      have hO := hr.there
                      have o0 := hr.n0 j hjl
                      clear hr
                      obtain ⟨ov, hov⟩ : ∃ v, v = out[j] := ⟨_, rfl⟩
                      rw [← hov] at o0
                      have B := Lib.hid hov
                      clear hov
                      by_cases hless : ov < t
                      · have hd : decide (ov < t) = true := by simpa using hless
                        have HL := Lib.hid hless
                        clear hless
                        go_wp2_with fail
                        go_roundg (out.length - (j + 1))
                        case measure => omega
                        case rel =>
                          refine ⟨j + 1, hjl, Nat.le_refl _, by go_num, Lx, ?_⟩
                          intro i hi h2
                          by_cases e : i = j
                          · subst e; rw [← B.out]; exact HL.out
                          · exact HA.out i (by omega) h2
                      · have hd : decide (ov < t) = false := by simpa using hless
                        have hp : posU t out = j := posU_is _ _ _ hj (fun i hi => HA.out i hi (by omega)) (fun _ => by rw [← B.out]; exact hless)
                        have HP := Lib.hid hp
                        clear hp hless
                        go_wp2_with fail
                        go_meet
                        rw [HP.out]
                        exact ⟨rfl, Lx⟩
                    · have hj2 : j = out.length := by omega
                      have hp : posU t out = j := posU_is _ _ _ hj (fun i hi => HA.out i hi (by omega)) (fun h => absurd h hjl)
                      have HP := Lib.hid hp
                      clear hp
                      go_wp2_with fail
                      go_meet
                      rw [HP.out]
                      exact ⟨rfl, Lx⟩
                case rest =>
                  obtain ⟨rfl, ⟨z5, rfl⟩⟩ := hcut
                  have hple := posU_le t out
                  have HP := Lib.hid (insU_pos t out)
                  generalize posU t out = p at *
                  go_upto_region 25 with fail
                  go_cut [129] (fun s129 wx => s129 = .bool (!(hasU out p t)) ∧ LaterOf z5.wd wx)
                  case first =>
                    by_cases hjl : p < out.length
                    · obtain ⟨g, off, rfl, hr⟩ := (HO.out.2.2.of (w' := z5.wd) Sx).at_ (by omega)
                      have hO := hr.there
                      have o0 := hr.n0 p hjl
                      clear hr
                      have hd : hasU out p t = (out[p] == t) := by
                        unfold hasU
                        rw [List.getElem?_eq_getElem hjl, Bool.eq_iff_iff]
                        simp
                      generalize out[p] = ov at *
                      have B := Lib.hid hd
                      clear hd
                      have e1 : ((p : Int) == (out.length : Int)) = false := by simp; omega
                      go_wp2_with fail
                      go_meet
                      rw [B.out]
                      exact ⟨by first | rfl | simp [bne], Lx⟩
                    · have hd : hasU out p t = false := by
                        unfold hasU
                        rw [decide_eq_false_iff_not, List.getElem?_eq_none (by omega)]; simp
                      have B := Lib.hid hd
                      clear hd
                      have e1 : ((p : Int) == (out.length : Int)) = true := by simp; omega
                      go_wp2_with fail
                      go_meet
                      rw [B.out]
                      exact ⟨by first | rfl | simp, Lx⟩
                  case rest =>
                    obtain ⟨hv, ⟨z6, rfl⟩⟩ := hcut
                    by_cases hd : out[p]? = some t
                    · have hdb : hasU out p t = true := decide_eq_true hd
                      rw [hdb] at hv
                      subst hv
                      have e : candTo ⟨some ⟨gc, oc, none⟩, sc, cals, sB, sd, R, most⟩ m ts (n + 1) = out := by rw [HO.out.2.1, HP.out, if_pos hd]
                      have E := Lib.hid e
                      clear hdb hd e
                      go_wp2_with fail
                      go_roundg (ts.length - (n + 1))
                      case measure => omega
                      case rel =>
                        refine ⟨n + 1, A2, c2', hltn, Nat.le_refl _, ?_, by go_num, ?_, Sx⟩
                        · rw [E.out]
                        · rw [E.out]; exact HO.out.1.of Sx
                    · have hdb : hasU out p t = false := decide_eq_false hd
                      rw [hdb] at hv
                      subst hv
                      have e : candTo ⟨some ⟨gc, oc, none⟩, sc, cals, sB, sd, R, most⟩ m ts (n + 1) = out.take p ++ t :: out.drop p := by rw [HO.out.2.1, HP.out, if_neg hd]
                      have hcap := HO.out.1.le_cap
                      have E := Lib.hid e
                      have hs6 : SinceOf z2.wd z6.wd := Sx
                      have hpc : p ≤ c2' := by omega
                      have R3 := Lib.hid (HO.out.2.2.of (show SinceOf z3.wd z6.wd from Sx))
                      have hbz : z2.wd.heap.size ≤ z6.wd.heap.size := hs6.size
                      clear hdb hd e t0
                      obtain ⟨hi, hz0, hz1, hz2⟩ := HI.out
                      go_wp2_with fail
                      go_region_law ((first
                        | (refine step_append_row rfl (.tmp 130) (.tmp 133) 57 rfl encN_len (by omega) encN_one i0 _ 8 Tryz.underlying57 hi hz0 hz1 hz2 rfl (l := []) (c := 0) (base := z2.wd.heap.size) rfl ?own (m := out.take p) (B := A2) (d := c2') ?hx ?hm ?h63 ?hby ?hbase ?_
                           case own => first | exact ownsN_empty _ _ hbz | exact (ownsN_empty _ _ hbz).alloc _ | (have q := ownsN_empty (z6.wd.alloc (.cells #[.int .i64 t] 3)) z2.wd.heap.size (by simp; omega); rw [show (z6.wd.alloc (.cells #[.int .i64 t] 3)).heap.size = z6.wd.heap.size + 1 from by simp] at q; exact q)
                           case hx => simp [Act.eval, hple]
                           case hm => exact (R3.out.take p).of Sx
                           case h63 => unfold maxLen; simp; omega
                           case hby => simp; omega
                           case hbase => simp; omega
                           intro A1 c1 w1 hown1 hgrow1 hb1
                           have hs1 : SinceOf z6.wd w1 := SinceOf.grown Sx hgrow1 (by intro q hq; simp [blockOf] at hq; omega))
                        | (refine step_append_row rfl (.tmp 134) (.tmp 136) 57 rfl encN_len (by omega) encN_one i0 _ 8 Tryz.underlying57 hi hz0 hz1 hz2 rfl (l := [] ++ out.take p) (A := A1) (c := c1) (base := z2.wd.heap.size) ?hs ?own (m := [t]) rfl ?hm ?h63 ?hby ?hbase ?_
                           case hs => simp [Act.eval, hple]
                           case own => first | exact hown1.alloc _ | exact hown1
                           case hm => first
                             | exact ⟨(by intro h; cases h), .inr ⟨_, _, rfl, rowN_one _ _⟩⟩
                             | exact ⟨(by intro h; cases h), .inr ⟨_, _, rfl, RowAt.grown (RowAt.of (rowN_one z6.wd t) Sx) hgrow1 (by simp [blockOf])⟩⟩
                             | (have q := rowN_one (z6.wd.alloc (.cells #[] 3)) t
                                rw [show (z6.wd.alloc (.cells #[] 3)).heap.size = z6.wd.heap.size + 1 from by simp] at q
                                exact ⟨(by intro h; cases h), .inr ⟨_, _, rfl, RowAt.grown (RowAt.of q Sx) hgrow1 (by simp [blockOf])⟩⟩)
                           case h63 => unfold maxLen; simp; omega
                           case hby => simp; omega
                           case hbase => first | (have := hgrow1.size; simp at this ⊢; omega)
                           intro A2' c2'' w2 hown2 hgrow2 hb2
                           have hs2 : SinceOf z6.wd w2 := SinceOf.grown Sx hgrow2 (by intro q hq; rw [hq] at hb1; simp [blockOf] at hb1; omega))
                        | (refine step_append_row rfl (.tmp 137) (.tmp 140) 57 rfl encN_len (by omega) encN_one i0 _ 8 Tryz.underlying57 hi hz0 hz1 hz2 rfl (l := [] ++ out.take p ++ [t]) (A := A2') (c := c2'') (base := z2.wd.heap.size) ?hs ?own (m := out.drop p) (B := if c2' = p then A2 else Option.map (fun x => x.add (p * 1)) A2) (d := c2' - p) ?hx ?hm ?h63 ?hby ?hbase ?_
                           case hs => simp [Act.eval, hple]
                           case own => exact hown2
                           case hx => simp [Act.eval]
                           case hm => exact (R3.out.drop hcap p).of Sx
                           case h63 => unfold maxLen; simp; omega
                           case hby => simp; omega
                           case hbase => have := hs2.size; simp at this ⊢; omega
                           intro A3 c3 w3 hown3 hgrow3 hb3
                           have hs3 : SinceOf z6.wd w3 := SinceOf.grown Sx hgrow3 (by
                             have h1 := hs1.size
                             intro q hq; rw [hq] at hb3; rw [hq] at hb2
                             rcases hb2 with h | h
                             · rw [← h] at hb1; simp [blockOf] at hb1; omega
                             · simp at h; omega))))
                      all_goals go_wp2_with fail
                      all_goals go_roundg (ts.length - (n + 1))
                      all_goals first
                        | omega
                        | (refine ⟨n + 1, A3, c3, hltn, Nat.le_refl _, ?_, by go_num, ?_, SinceOf.trans hs6 hs3⟩
                           · rw [E.out]; simp [hple]; omega
                           · rw [E.out]; simpa using hown3)
              · rw [if_neg h0] at hsu
                have h0' : (te != 0) = true := by simpa using h0
                have HO := Lib.hid (And.intro hown hsu)
                clear hown hsu h0
                go_wp2_with fail
                refine region_later (by kernel_rfl) (by kernel_rfl) ?_
                repeat (go_big_quiet_step ((with_reducible refine Gives.later (NK _ Sx))))
                refine wpQuiet_nil ?_
                rintro _ ⟨z4, rfl⟩
                go_wp2_with fail
                go_roundg (ts.length - (n + 1))
                case measure => omega
                case rel =>
                  refine ⟨n + 1, A2, c2', hltn, Nat.le_refl _, ?_, by go_num, ?_, Sx⟩
                  · rw [HO.out.2]
                  · rw [HO.out.2]; exact HO.out.1.of Sx
            · have hnl : n = ts.length := by omega
              have he : res = candTo ⟨some ⟨gc, oc, none⟩, sc, cals, sB, sd, R, most⟩ m ts n := by rw [HB.out, hnl]; unfold candTo candL; rw [List.take_length]
              generalize candTo ⟨some ⟨gc, oc, none⟩, sc, cals, sB, sd, R, most⟩ m ts n = out at *
              have HO := Lib.hid (And.intro hown he)
              clear hown he hnl
              go_wp2_with fail
              go_returns
              refine ⟨A2, c2', ?_, ?_, Sx⟩
              · rw [HO.out.2]; rfl
              · rw [HO.out.2]; exact (HO.out.1.isRow encN_len)
end Go.Proofs.YtpaojgfmffkodaaGreat
/- Layer 52 (the reference): dispatch. -/
namespace Go.Proofs.YtpaojgfmffkodaaGreat
set_option linter.unusedVariables false
set_option linter.unusedSimpArgs false
open Go.RowKit Go.Sort
attribute [local go_sem ↓] Go.wp_at_zero Go.wp_at_succ
theorem find_drop {α : Type} (p : α → Bool) {l : List α} {k : Nat} (h : k < l.length) : (l.drop k).find? p = if p l[k] = true then some l[k] else (l.drop (k + 1)).find? p := by
  rw [List.drop_eq_getElem_cons h, List.find?_cons]
  cases p l[k] <;> rfl
theorem ownsS_empty (W : World) (b : Nat) (hb : b ≤ W.heap.size) : Owns encS 4 b 77 (W.alloc (.cells #[] 77)) (some ⟨W.heap.size, 0, none⟩) 0 [] :=
  World.ownsRow_lit (base := b) (e := 77) (size := 4) W #[] 0 hb (Nat.zero_le _) rfl
theorem rowS_one (W : World) (x : SlotR) : RowAt encS 4 (W.alloc (.cells #[.int .i64 x.job, .int .i64 x.mach, .int .i64 x.start, .int .i64 x.stop] 77)) W.heap.size 0 [x] := by
  obtain ⟨g, off, e, h⟩ := (rowS_at W W.heap.size x 77 rfl).at_ (by simp)
  injection e with e
  injection e with e1 e2
  subst e1 e2
  exact h
theorem fits_true {s : ShopR} {L : List JobR} {l : List SlotR} {jb m u fe : Int} (hc : checkS s L = true) (h : finishAt s m u (jobAt L jb).dur = (fe, 0)) (hv : (validT s L (l ++ [⟨jb, m, u, fe⟩])).2 = 0) : fitsB s L l jb m u = true := by
  unfold fitsB slotAt
  rw [h]
  unfold validT at hv
  rw [if_pos hc] at hv
  simpa using hv
theorem fits_false {s : ShopR} {L : List JobR} {l : List SlotR} {jb m u fe : Int} (hc : checkS s L = true) (h : finishAt s m u (jobAt L jb).dur = (fe, 0)) (hv : ¬ (validT s L (l ++ [⟨jb, m, u, fe⟩])).2 = 0) : fitsB s L l jb m u = false := by
  unfold fitsB slotAt
  rw [h]
  unfold validT at hv
  rw [if_pos hc] at hv
  simpa using hv
theorem fits_no {s : ShopR} {L : List JobR} {l : List SlotR} {jb m u : Int} (h : ¬ (finishAt s m u (jobAt L jb).dur).2 = 0) : fitsB s L l jb m u = false := by
  unfold fitsB
  rw [show ((finishAt s m u (jobAt L jb).dur).2 == 0) = false by simpa using h]
  rfl
theorem cell_since {w w' : World} (h : SinceOf w w') {g i : Nat} {u : Value} [Nonempty (Old w g)] (hc : w.cell? ⟨g, i, none⟩ = some u) : w'.cell? ⟨g, i, none⟩ = some u := by
  obtain ⟨y, rfl⟩ := h
  rw [Since.cell]
  exact hc
theorem oldS_since {w w' : World} (h : SinceOf w w') {g : Nat} (ho : Nonempty (Old w g)) : Nonempty (Old w' g) := by
  obtain ⟨y, rfl⟩ := h
  infer_instance
theorem candV_length (s : ShopR) (L : List JobR) (l : List SlotR) (jb m : Int) : (candV s L l jb m).length ≤ l.length + 1 := by
  unfold candV
  split
  · simp
  · rename_i b _
    have h1 := candTo_length s m (b :: endsOf b l) (b :: endsOf b l).length (Nat.le_refl _)
    have h2 := endsOf_le b l
    unfold candTo at h1
    rw [List.take_length] at h1
    unfold candL
    simp only [List.length_cons] at h1
    omega
set_option maxRecDepth 100000 in
set_option maxHeartbeats 16000000 in
theorem refDispatch_any (s : ShopR) (A : Option Addr) (c : Nat) (L : List JobR) (B : Option Addr) (d : Nat) (l : List SlotR) (jb : Nat) (w : World) (hs : IsShop w s) (h : IsJobs w A c L) (hc : checkS s L = true) (hl : IsSlots w B d l) (hll : l.length < 1073741824) (hn : NamedS s L l) (hjb : jb < L.length) :
    Yields Tryz.prog 94 #[shopV s, .slice A L.length c, .slice B l.length d, .int .i64 jb] w (slotOpt (dispatchV s L l jb)) := by
  apply Yields.ret
  have gp := check_good hc
  have hmc := check_machs hc
  have CA := fun (m : Nat) (hm : m < s.cals.length) W (hW : SinceOf w W) => refCand_any s A c L B d l jb m W (hs.of hW) (h.of hW) gp (hl.of hW) hll hn hjb hm
  have VA := fun (x : SlotR) B' d' W (hW : SinceOf w W) (hx : IsSlots W B' d' (l ++ [x])) (hd : (l ++ [x]).length ≤ d') => refValid52_any s A c L B' d' (l ++ [x]) W (hs.of hW) (h.of hW) hx (by simp; omega) hd
  have hjl := h.len
  have hcl := hs.cals.len
  have hrel := (job_parts (check_job hc (List.getElem_mem hjb))).2.2.2.2.1.1
  rw [← jobAt_at hjb] at hrel
  obtain ⟨gj, oj, hAj, hrj⟩ := h.row.at_ (by omega)
  have hOj := hrj.there
  have i0 := hrj.j0 jb hjb
  have i1 := hrj.j1 jb hjb
  have hms := h.all _ (List.getElem_mem hjb)
  have hmr := hmc _ (List.getElem_mem hjb)
  have em : (jobAt L jb).ms = L[jb].ms := by rw [jobAt_at hjb]
  have ed : (jobAt L jb).dur = L[jb].dur := by rw [jobAt_at hjb]
  have FT := fun (m u fe : Int) => fits_true (s := s) (L := L) (l := l) (jb := jb) (m := m) (u := u) (fe := fe) hc
  have FF := fun (m u fe : Int) => fits_false (s := s) (L := L) (l := l) (jb := jb) (m := m) (u := u) (fe := fe) hc
  have FN := fun (m u : Int) => fits_no (s := s) (L := L) (l := l) (jb := jb) (m := m) (u := u)
  have ON := fun m : Int => onV_cand (s := s) (L := L) (l := l) (jb := jb) (m := m) hrel
  rw [ed] at FT FF FN
  have hst : ∀ m u : Int, slotAt s L jb m u = ⟨jb, m, u, (finishAt s m u L[jb].dur).1⟩ := fun m u => by unfold slotAt; rw [ed]
  obtain ⟨res, hres⟩ : ∃ v, v = dispatchV s L l jb := ⟨_, rfl⟩
  rw [← hres]
  unfold dispatchV at hres
  rw [em] at hres
  obtain ⟨ti, ni, nz0, nz1, nz2⟩ := info_parts infoSlotR
  have HI := Lib.hid (And.intro ni (And.intro nz0 (And.intro nz1 nz2)))
  have hcals := hs.cals
  obtain ⟨sA, sc, cals, sB, sd, R, most⟩ := s
  simp only at *
  have hef : ∀ (m : Nat) (hm : m < cals.length) (u k : Int), finishAt ⟨sA, sc, cals, sB, sd, R, most⟩ m u k = finishV cals[m].P cals[m].S cals[m].D u k := fun m hm u k => by unfold finishAt; rw [calAt_at hm]
  have hpos : L[jb].ms ≠ [] → 0 < cals.length := by
    intro hne
    obtain ⟨x, hx⟩ := List.exists_mem_of_ne_nil _ hne
    have := hmr x hx
    omega
  subst hAj
  generalize L[jb].ms = ms at *
  generalize L[jb].dur = dur at *
  have hml := hms.2
  have H := Lib.hid (And.intro hms (And.intro hmr (And.intro hres (And.intro CA (And.intro VA (And.intro hef (And.intro hpos hcals)))))))
  have HF := Lib.hid (And.intro hl (And.intro FT (And.intro FF (And.intro FN (And.intro ON hst)))))
  clear hs h gp hc hmc hl hn hms hmr hres CA VA FT FF FN ON hst hrj em ed hrel hef hpos hcals ni nz0 nz1 nz2
  go_enter Tryz.func94, Tryz.ntmps94
  go_wp2_with fail
  go_loopg [11, 12] ms.length (fun gas s11 s12 wr => ∃ (k : Nat) (best : Option SlotR), k ≤ ms.length ∧ ms.length - k ≤ gas ∧ s11 = .bool best.isSome ∧ s12 = .int .i64 k ∧ SinceOf ((w.alloc (.cells #[.slice sA cals.length sc, .slice sB R.length sd, .int .i64 most] 25)).alloc (.cells #[.int .i64 0, .int .i64 0, .int .i64 0, .int .i64 0] 77)) wr ∧ SlotW wr (w.heap.size + 1 + 1) (slotOr best) ∧
    best = (ms.take k).foldl (fun best m => betterS best (onV ⟨sA, sc, cals, sB, sd, R, most⟩ L l jb m)) none)
  case atStart => exact ⟨0, none, by omega, by omega, rfl, rfl, Sx, ⟨by simp [go_sem, slotOr], by simp [go_sem, slotOr], by simp [go_sem, slotOr], by simp [go_sem, slotOr], by simp [go_sem], by simp [go_sem], by simp [go_sem], by simp [go_sem], inferInstance⟩, by simp⟩
  case round =>
    obtain ⟨k, best, hk, hgas, rfl, rfl, ⟨z, rfl⟩, hb, hbe⟩ := hrel
    by_cases hlt : k < ms.length
    · have hsn := foldl_at (fun best m => betterS best (onV ⟨sA, sc, cals, sB, sd, R, most⟩ L l jb m)) none hlt
      rw [← hbe] at hsn
      obtain ⟨hm0, hm1⟩ := H.out.2.1 _ (List.getElem_mem hlt)
      obtain ⟨mN, hmN⟩ : ∃ q : Nat, ms[k] = q := ⟨ms[k].toNat, by omega⟩
      have hmN1 : mN < cals.length := by omega
      rw [hmN, HF.out.2.2.2.2.1] at hsn
      have CK := H.out.2.2.2.1 mN hmN1
      obtain ⟨gm, om, hAm, hrm⟩ := (H.out.1.1.of (show SinceOf w z.wd from Sx)).at_ (by omega)
      have hOm := hrm.there
      have n0 := hrm.n0 k hlt
      rw [hmN] at n0
      obtain ⟨gc, oc, hAc, hrc⟩ := H.out.2.2.2.2.2.2.2.row.at_ (by omega)
      have hOc := hrc.there
      have c0 := hrc.k0 mN hmN1
      have c1 := hrc.k1 mN hmN1
      have c2 := hrc.k2 mN hmN1
      have HB := Lib.hid (And.intro hb (And.intro hbe hsn))
      obtain ⟨b0, b1, b2, b3, e0, e1, e2, e3, hO2⟩ := hb
      clear hbe hsn hrm hmN hm0 hm1 hrc
      generalize L[jb].A = Am at *
      subst hAm hAc
      go_wp2_with fail
      (with_reducible refine (CK _ Sx).mono ?_)
      rintro e _ ⟨A5, c5, rfl, hrow, ⟨x1, rfl⟩⟩
      have hcsl := candV_length ⟨some ⟨gc, oc, none⟩, sc, cals, sB, sd, R, most⟩ L l jb mN
      generalize candV ⟨some ⟨gc, oc, none⟩, sc, cals, sB, sd, R, most⟩ L l jb mN = cs at *
      have HR := Lib.hid hrow
      clear hrow CK
      go_wp2_with fail
      go_loopg [11, 15] cs.length (fun gas s11 s15 wr => ∃ i : Nat, i ≤ cs.length ∧ cs.length - i ≤ gas ∧ s11 = .bool best.isSome ∧ s15 = .int .i64 i ∧ SinceOf x1.wd wr ∧ cs.find? (fitsB ⟨some ⟨gc, oc, none⟩, sc, cals, sB, sd, R, most⟩ L l jb mN) = (cs.drop i).find? (fitsB ⟨some ⟨gc, oc, none⟩, sc, cals, sB, sd, R, most⟩ L l jb mN))
      case atStart => exact ⟨0, by omega, by omega, rfl, rfl, Sx, by rw [List.drop_zero]⟩
      case round =>
        obtain ⟨i, hi, hgas2, rfl, rfl, ⟨z2, rfl⟩, hf⟩ := hrel
        by_cases hlti : i < cs.length
        · rw [find_drop _ hlti] at hf
          obtain ⟨gt, ot, rfl, hrt⟩ := (HR.out.of (show SinceOf x1.wd z2.wd from Sx)).at_ (by omega)
          have hOt := hrt.there
          have t0 := hrt.n0 i hlti
          generalize cs[i] = u at *
          clear hrt
          have FI := fun W (hW : SinceOf w W) => refFinish_any (w := W) u dur ((H.out.2.2.2.2.2.2.2.all _ (List.getElem_mem hmN1)).of hW)
          rw [← H.out.2.2.2.2.2.1 mN hmN1] at FI
          simp only [pairV] at FI
          have hst := HF.out.2.2.2.2.2 mN u
          have hft := HF.out.2.1 mN u
          have hff := HF.out.2.2.1 mN u
          have hfn := HF.out.2.2.2.1 mN u
          generalize fitsB ⟨some ⟨gc, oc, none⟩, sc, cals, sB, sd, R, most⟩ L l jb mN u = fb at *
          generalize finishAt ⟨some ⟨gc, oc, none⟩, sc, cals, sB, sd, R, most⟩ mN u dur = fv at *
          obtain ⟨fe, fr⟩ := fv
          simp only at hst hft hff hfn FI
          generalize cals[mN] = K at *
          by_cases h0 : fr = 0
          · subst h0
            have hft := hft fe rfl
            have hff := hff fe rfl
            have VX := H.out.2.2.2.2.1 ⟨jb, mN, u, fe⟩
            generalize validT ⟨some ⟨gc, oc, none⟩, sc, cals, sB, sd, R, most⟩ L (l ++ [⟨jb, mN, u, fe⟩]) = vt at *
            obtain ⟨vi, ve⟩ := vt
            simp only [List.length_append, List.length_singleton] at VX hft hff
            have HX := Lib.hid (And.intro hf (And.intro hst (And.intro hft (And.intro hff hfn))))
            clear hf hst hft hff hfn
            go_wp2_with fail
            refine region_later (by kernel_rfl) (by kernel_rfl) ?_
            repeat (go_big_quiet_step ((with_reducible refine Gives.later (FI _ Sx))))
            refine wpQuiet_nil ?_
            rintro _ ⟨z4, rfl⟩
            go_upto_region 14 with fail
            clear FI t0 c0 c1 c2 n0
            obtain ⟨V, hV⟩ : ∃ V, V = z4.wd.alloc (.cells #[.int .i64 jb, .int .i64 mN, .int .i64 u, .int .i64 fe] 77) := ⟨_, rfl⟩
            have hzV : SinceOf z2.wd V := by rw [hV]; (repeat (with_reducible first | exact Sr _ | assumption | refine Sa ?_ _ | refine Sd ?_ | refine Sn ?_ _ | refine Se ?_ _ | refine Sf ?_ _ | refine Sc ?_ (by first | exact Nat.le_refl _ | (simp; done) | omega | (simp; omega)) _))
            have hv0 : V.cell? ⟨z4.wd.heap.size, 0, none⟩ = some (.int .i64 jb) := by rw [hV]; simp [go_sem]
            have hv1 : V.cell? ⟨z4.wd.heap.size, 1, none⟩ = some (.int .i64 mN) := by rw [hV]; simp [go_sem]
            have hv2 : V.cell? ⟨z4.wd.heap.size, 2, none⟩ = some (.int .i64 u) := by rw [hV]; simp [go_sem]
            have hv3 : V.cell? ⟨z4.wd.heap.size, 3, none⟩ = some (.int .i64 fe) := by rw [hV]; simp [go_sem]
            have hOV : Nonempty (Old V z4.wd.heap.size) := by rw [hV]; exact ⟨⟨by simp⟩⟩
            go_cut [20] (fun s20 wx => s20 = .int .i64 ve ∧ SinceOf (z4.wd.alloc (.cells #[.int .i64 jb, .int .i64 mN, .int .i64 u, .int .i64 fe] 77)) wx)
            case first =>
              rw [← hV]
              have hbz : z4.wd.heap.size < V.heap.size := by rw [hV]; simp
              have hzw : SinceOf w V := by rw [hV]; (repeat (with_reducible first | exact Sr _ | assumption | refine Sa ?_ _ | refine Sd ?_ | refine Sn ?_ _ | refine Se ?_ _ | refine Sf ?_ _ | refine Sc ?_ (by first | exact Nat.le_refl _ | (simp; done) | omega | (simp; omega)) _))
              have sv0 : V.cell? ⟨w.heap.size, 0, none⟩ = some (.slice (some ⟨gc, oc, none⟩) cals.length sc) := by rw [hV]; simp [go_sem]
              have sv1 : V.cell? ⟨w.heap.size, 1, none⟩ = some (.slice sB R.length sd) := by rw [hV]; simp [go_sem]
              have sv2 : V.cell? ⟨w.heap.size, 2, none⟩ = some (.int .i64 most) := by rw [hV]; simp [go_sem]
              have hOS : Nonempty (Old V w.heap.size) := by rw [hV]; infer_instance
              have RL := Lib.hid (HF.out.1.of hzw)
              obtain ⟨hi2, hz0, hz1, hz2⟩ := HI.out
              have hs3 : SinceOf (z4.wd.alloc (.cells #[.int .i64 jb, .int .i64 mN, .int .i64 u, .int .i64 fe] 77)) V := by rw [hV]; exact SinceOf.refl _
              clear hV b0 b1 b2 b3 e0 e1 e2 e3
              go_region_held3 (fun w' => w'.cell? ⟨w.heap.size, 0, none⟩ = some (.slice (some ⟨gc, oc, none⟩) cals.length sc) ∧ w'.cell? ⟨w.heap.size, 1, none⟩ = some (.slice sB R.length sd) ∧ w'.cell? ⟨w.heap.size, 2, none⟩ = some (.int .i64 most) ∧ w'.cell? ⟨z4.wd.heap.size, 0, none⟩ = some (.int .i64 jb) ∧ w'.cell? ⟨z4.wd.heap.size, 1, none⟩ = some (.int .i64 mN) ∧ w'.cell? ⟨z4.wd.heap.size, 2, none⟩ = some (.int .i64 u) ∧ w'.cell? ⟨z4.wd.heap.size, 3, none⟩ = some (.int .i64 fe)) ((simp [go_sem, *]))
               (first
                | (refine step_append_row rfl (.tmp 82) (.tmp 83) 29 rfl encS_len (by omega) encS_one ti _ 32 Tryz.underlying29 hi2 hz0 hz1 hz2 rfl (l := []) (c := 0) (base := V.heap.size) rfl ?own (m := l) (B := B) (d := d) rfl ?hm ?h63 ?hby ?hbase ?_
                   case own => first | exact ownsS_empty _ _ (Nat.le_refl _) | exact (ownsS_empty _ _ (Nat.le_refl _)).alloc _ | (have q := ownsS_empty (V.alloc (.cells #[.int .i64 jb, .int .i64 mN, .int .i64 u, .int .i64 fe] 77)) V.heap.size (by simp); rw [show (V.alloc (.cells #[.int .i64 jb, .int .i64 mN, .int .i64 u, .int .i64 fe] 77)).heap.size = V.heap.size + 1 from by simp] at q; exact q)
                   case hm => exact RL.out.of Sx
                   case h63 => unfold maxLen; simp; omega
                   case hby => simp; omega
                   case hbase => first | (simp; done) | (simp; omega) | (have := hbz; simp; omega)
                   intro A1 c1 w1 hown1 hgrow1 hb1
                   have hs1 : SinceOf V w1 := SinceOf.grown Sx hgrow1 (by intro q hq; simp [blockOf] at hq; omega)
                   have hOS1 : Nonempty (Old w1 w.heap.size) := oldS_since hs1 hOS
                   have hOV1 : Nonempty (Old w1 z4.wd.heap.size) := oldS_since hs1 hOV
                   have hw0 := cell_since hs1 hv0
                   have hw1 := cell_since hs1 hv1
                   have hw2 := cell_since hs1 hv2
                   have hw3 := cell_since hs1 hv3
                   have sw0 := cell_since hs1 sv0
                   have sw1 := cell_since hs1 sv1
                   have sw2 := cell_since hs1 sv2)
                | (refine step_append_row rfl (.tmp 84) (.tmp 86) 29 rfl encS_len (by omega) encS_one ti _ 32 Tryz.underlying29 hi2 hz0 hz1 hz2 rfl (l := [] ++ l) (A := A1) (c := c1) (base := V.heap.size) ?hs ?own (m := [⟨jb, mN, u, fe⟩]) rfl ?hm ?h63 ?hby ?hbase ?_
                   case hs => simp [Act.eval]
                   case own => first | exact hown1.alloc _ | exact hown1
                   case hm => first
                     | exact ⟨(by intro h; cases h), .inr ⟨_, _, rfl, rowS_one _ ⟨jb, mN, u, fe⟩⟩⟩
                     | exact ⟨(by intro h; cases h), .inr ⟨_, _, rfl, RowAt.grown (RowAt.of (rowS_one V ⟨jb, mN, u, fe⟩) Sx) hgrow1 (by simp [blockOf])⟩⟩
                     | (have q := rowS_one (V.alloc (.cells #[] 77)) ⟨jb, mN, u, fe⟩
                        rw [show (V.alloc (.cells #[] 77)).heap.size = V.heap.size + 1 from by simp] at q
                        exact ⟨(by intro h; cases h), .inr ⟨_, _, rfl, RowAt.grown (RowAt.of q Sx) hgrow1 (by simp [blockOf])⟩⟩)
                   case h63 => unfold maxLen; simp; omega
                   case hby => simp; omega
                   case hbase => (have := hs1.size; simp at this ⊢; omega)
                   intro A2 c2 w2 hown2 hgrow2 hb2
                   have hs2 : SinceOf V w2 := SinceOf.grown Sx hgrow2 (by intro q hq; rw [hq] at hb1; simp [blockOf] at hb1; omega)
                   have hcap2 : l.length + 1 ≤ c2 := by (have := hown2.le_cap; simp at this; omega)
                   have hrow2 : IsSlots w2 A2 c2 (l ++ [⟨jb, mN, u, fe⟩]) := hown2.isRow encS_len
                   have VC := VX A2 c2 w2 (SinceOf.trans hzw hs2) hrow2 hcap2
                   have hOS2 : Nonempty (Old w2 w.heap.size) := oldS_since hs2 hOS
                   have hOV2 : Nonempty (Old w2 z4.wd.heap.size) := oldS_since hs2 hOV
                   have hx0 := cell_since hs2 hv0
                   have hx1 := cell_since hs2 hv1
                   have hx2 := cell_since hs2 hv2
                   have hx3 := cell_since hs2 hv3
                   have sx0 := cell_since hs2 sv0
                   have sx1 := cell_since hs2 sv1
                   have sx2 := cell_since hs2 sv2)
                | (go_at_call 42; refine VC.calls.mono ?_; rintro e _ ⟨rfl, z9, rfl⟩))
              all_goals go_wp2_with fail
              all_goals go_meet
              all_goals exact ⟨rfl, SinceOf.trans hs3 Sx⟩
            case rest =>
              obtain ⟨rfl, ⟨z5, rfl⟩⟩ := hcut
              clear VX hV hzV hv0 hv1 hv2 hv3 hOV
              by_cases hve : ve = 0
              · subst hve
                have hfb : fb = true := HX.out.2.2.1 rfl
                have hon : (cs.find? (fitsB ⟨some ⟨gc, oc, none⟩, sc, cals, sB, sd, R, most⟩ L l jb mN)).map (slotAt ⟨some ⟨gc, oc, none⟩, sc, cals, sB, sd, R, most⟩ L jb mN) = some ⟨jb, mN, u, fe⟩ := by
                  rw [HX.out.1, hfb, if_pos rfl, Option.map_some, HX.out.2.1]
                have HO := Lib.hid hon
                clear hon hfb
                cases best with
                | none =>
                  go_wp2_with fail
                  go_roundg (ms.length - (k + 1))
                  case measure => omega
                  case rel => exact ⟨k + 1, some ⟨jb, mN, u, fe⟩, hlt, Nat.le_refl _, rfl, by go_num, Sx, (HB.out.1.of Sx).set ⟨jb, mN, u, fe⟩, by rw [HB.out.2.2, HO.out]; rfl⟩
                | some bx =>
                  have hbx : betterS (some bx) (some ⟨jb, mN, u, fe⟩) = if fe < bx.stop then some ⟨jb, mN, u, fe⟩ else some bx := rfl
                  simp only [slotOr, Option.getD_some] at b0 b1 b2 b3
                  by_cases hlt2 : fe < bx.stop
                  · have hd : decide (fe < bx.stop) = true := by simpa using hlt2
                    rw [if_pos hlt2] at hbx
                    have HX2 := Lib.hid hbx
                    clear hbx
                    go_wp2_with fail
                    go_roundg (ms.length - (k + 1))
                    case measure => omega
                    case rel => exact ⟨k + 1, some ⟨jb, mN, u, fe⟩, hlt, Nat.le_refl _, rfl, by go_num, Sx, (HB.out.1.of Sx).set ⟨jb, mN, u, fe⟩, by rw [HB.out.2.2, HO.out, HX2.out]⟩
                  · have hd : decide (fe < bx.stop) = false := by simpa using hlt2
                    rw [if_neg hlt2] at hbx
                    have HX2 := Lib.hid hbx
                    clear hbx
                    go_wp2_with fail
                    go_roundg (ms.length - (k + 1))
                    case measure => omega
                    case rel => exact ⟨k + 1, some bx, hlt, Nat.le_refl _, rfl, by go_num, Sx, HB.out.1.of Sx, by rw [HB.out.2.2, HO.out, HX2.out]⟩
              · have hd : (ve == 0) = false := by simpa using hve
                have hfb : fb = false := HX.out.2.2.2.1 hve
                have hnx := HX.out.1
                rw [hfb, if_neg (by simp)] at hnx
                have HNX := Lib.hid hnx
                clear hnx hfb hve
                go_wp2_with fail
                go_roundg (cs.length - (i + 1))
                case measure => omega
                case rel => exact ⟨i + 1, hlti, Nat.le_refl _, rfl, by go_num, Sx, HNX.out⟩
          · have h0' : (fr != 0) = true := by simpa using h0
            have hfb := hfn h0
            rw [hfb, if_neg (by simp)] at hf
            have HX := Lib.hid hf
            clear hf hst hft hff hfn h0 hfb
            go_wp2_with fail
            refine region_later (by kernel_rfl) (by kernel_rfl) ?_
            repeat (go_big_quiet_step ((with_reducible refine Gives.later (FI _ Sx))))
            refine wpQuiet_nil ?_
            rintro _ ⟨z4, rfl⟩
            go_wp2_with fail
            go_roundg (cs.length - (i + 1))
            case measure => omega
            case rel => exact ⟨i + 1, hlti, Nat.le_refl _, rfl, by go_num, Sx, HX.out⟩
        · have hil : i = cs.length := by omega
          rw [hil, List.drop_length] at hf
          have HFN := Lib.hid hf
          clear hf hil
          go_wp2_with fail
          go_roundg (ms.length - (k + 1))
          case measure => omega
          case rel => exact ⟨k + 1, best, hlt, Nat.le_refl _, rfl, by go_num, Sx, HB.out.1.of Sx, by rw [HB.out.2.2, HFN.out]; rfl⟩
    · have hkl : k = ms.length := by omega
      rw [hkl, List.take_length, ← H.out.2.2.1] at hbe
      obtain ⟨b0, b1, b2, b3, e0, e1, e2, e3, hO2⟩ := hb
      have HB := Lib.hid hbe
      clear hbe hkl
      go_wp2_with fail
      go_returns
      refine ⟨?_, Sx⟩
      rw [← HB.out]
      cases best <;> rfl
end Go.Proofs.YtpaojgfmffkodaaGreat
/- Layer 52: Dispatch, the program's and the reference's. -/
namespace Go.Proofs.YtpaojgfmffkodaaGreat
set_option linter.unusedVariables false
set_option linter.unusedSimpArgs false
open Go.RowKit Go.Sort
attribute [local go_sem ↓] Go.wp_at_zero Go.wp_at_succ
def dispR (s : ShopR) (L : List JobR) (l : List SlotR) (j : Int) : SlotR × Bool × Int :=
  if (validT s L l).2 = 0 then (if askedE L l j = 0 then (slotOr (dispatchV s L l j), (dispatchV s L l j).isSome, 0) else (⟨0, 0, 0, 0⟩, false, askedE L l j)) else (⟨0, 0, 0, 0⟩, false, (validT s L l).2)
def dispTup (x : SlotR × Bool × Int) : Value := .tuple #[slotV x.1, .bool x.2.1, .int .i64 x.2.2]
theorem slotOpt_eq (o : Option SlotR) : slotOpt o = .tuple #[slotV (slotOr o), .bool o.isSome] := by cases o <;> rfl
set_option maxHeartbeats 2000000 in
theorem progDispatch_any (s : ShopR) (A : Option Addr) (c : Nat) (L : List JobR) (B : Option Addr) (d : Nat) (l : List SlotR) (j : Int) (w : World) (hs : IsShop w s) (h : IsJobs w A c L) (hl : IsSlots w B d l) (hll : l.length < 1073741824) (hcap : l.length ≤ d) :
    Yields Tryz.prog 54 #[shopV s, .slice A L.length c, .slice B l.length d, .int .i64 j] w (dispTup (dispR s L l j)) := by
  apply Yields.ret
  have VA := fun W hW => valid52_any s A c L B d l W (hs.of hW) (h.of hW) (hl.of hW) (by omega) hcap
  have AK := fun W hW => asked_any A c L B d l j W h.len (hl.of hW) (by omega)
  have DI := fun (hc : checkS s L = true) (hg : GoodS s L l) (jb : Nat) (hjb : jb < L.length) W hW => dispatch_any s A c L B d l jb W (hs.of hW) (h.of hW) (check_good hc) (any_orders hc) (check_machs hc) (hl.of hW) hll (good_named hg) hjb
  unfold dispR
  by_cases hv : (validT s L l).2 = 0
  · rw [if_pos hv]
    by_cases ha : askedE L l j = 0
    · rw [if_pos ha]
      obtain ⟨hc, hg⟩ := validT_zero.1 hv
      obtain ⟨hj0, hj1⟩ := asked_in ha
      obtain ⟨jb, rfl⟩ : ∃ q : Nat, j = q := ⟨j.toNat, by omega⟩
      have DJ := DI hc hg jb (by omega)
      rw [slotOpt_eq] at DJ
      generalize dispatchV s L l jb = o at *
      generalize slotOr o = x at *
      generalize o.isSome = b at *
      rw [hv] at VA
      rw [ha] at AK
      generalize (validT s L l).1 = v1 at *
      obtain ⟨x0, y0, x2, x3⟩ := x
      obtain ⟨sA, sc, cals, sB, sd, R, most⟩ := s
      clear hs h hl hc hg DI hv ha hj0 hj1
      go_enter Tryz.func54, Tryz.ntmps54
      go_wp2_with fail
      refine (VA _ Sx).calls.mono ?_
      rintro e _ ⟨rfl, z1, rfl⟩
      go_wp2_with fail
      refine (AK _ Sx).calls.mono ?_
      rintro e _ ⟨rfl, z2, rfl⟩
      go_wp2_with fail
      (with_reducible refine (DJ _ Sx).calls.mono ?_)
      rintro e _ ⟨rfl, z3, rfl⟩
      go_wp2_with fail
      go_returns
      exact ⟨rfl, Sx⟩
    · rw [if_neg ha]
      rw [hv] at VA
      have ha' : (askedE L l j != 0) = true := by simpa using ha
      generalize (validT s L l).1 = v1 at *
      generalize askedE L l j = ae at *
      obtain ⟨sA, sc, cals, sB, sd, R, most⟩ := s
      clear hs h hl DI hv ha
      go_enter Tryz.func54, Tryz.ntmps54
      go_wp2_with fail
      refine (VA _ Sx).calls.mono ?_
      rintro e _ ⟨rfl, z1, rfl⟩
      go_wp2_with fail
      refine (AK _ Sx).calls.mono ?_
      rintro e _ ⟨rfl, z2, rfl⟩
      go_wp2_with fail
      go_returns
      exact ⟨rfl, Sx⟩
  · rw [if_neg hv]
    have hv' : ((validT s L l).2 != 0) = true := by simpa using hv
    generalize validT s L l = vt at *
    obtain ⟨v1, v2⟩ := vt
    simp only at hv' VA
    obtain ⟨sA, sc, cals, sB, sd, R, most⟩ := s
    clear hs h hl DI hv AK
    go_enter Tryz.func54, Tryz.ntmps54
    go_wp2_with fail
    refine (VA _ Sx).calls.mono ?_
    rintro e _ ⟨rfl, z1, rfl⟩
    go_wp2_with fail
    go_returns
    exact ⟨rfl, Sx⟩
theorem asked_cases (L : List JobR) (l : List SlotR) (j : Int) : (askedE L l j = 6 ∧ (j < 0 ∨ (¬ j < 0 ∧ (L.length : Int) ≤ j))) ∨ (askedE L l j = 7 ∧ ¬ j < 0 ∧ ¬ (L.length : Int) ≤ j ∧ l.any (fun y => y.job == j) = true) ∨ (askedE L l j = 0 ∧ ¬ j < 0 ∧ ¬ (L.length : Int) ≤ j ∧ l.any (fun y => y.job == j) = false) := by
  unfold askedE
  cases hi : jobIn L j
  · left
    rw [if_pos rfl]
    refine ⟨rfl, ?_⟩
    unfold jobIn at hi
    simp at hi
    omega
  · right
    rw [if_neg (by simp)]
    unfold jobIn at hi
    simp at hi
    cases ha : l.any (fun y => y.job == j)
    · right
      rw [if_neg (by simp)]
      exact ⟨rfl, by omega, by omega, rfl⟩
    · left
      rw [if_pos rfl]
      exact ⟨rfl, by omega, by omega, rfl⟩
set_option maxHeartbeats 4000000 in
theorem refDispatch52_any (s : ShopR) (A : Option Addr) (c : Nat) (L : List JobR) (B : Option Addr) (d : Nat) (l : List SlotR) (j : Int) (w : World) (hs : IsShop w s) (h : IsJobs w A c L) (hl : IsSlots w B d l) (hll : l.length < 1073741824) (hcap : l.length ≤ d) :
    Yields Tryz.prog 59 #[shopV s, .slice A L.length c, .slice B l.length d, .int .i64 j] w (dispTup (dispR s L l j)) := by
  apply Yields.ret
  have VA := fun W hW => refValid52_any s A c L B d l W (hs.of hW) (h.of hW) (hl.of hW) (by omega) hcap
  have HA := fun W hW => refHas_any B d l j W (hl.of hW) (by omega)
  have DI := fun (hc : checkS s L = true) (hg : GoodS s L l) (jb : Nat) (hjb : jb < L.length) W hW => refDispatch_any s A c L B d l jb W (hs.of hW) (h.of hW) hc (hl.of hW) hll (good_named hg) hjb
  have hjl := h.len
  unfold dispR
  by_cases hv : (validT s L l).2 = 0
  · rw [if_pos hv]
    rcases asked_cases L l j with ⟨ha, e0⟩ | ⟨ha, e0, e1, e2⟩ | ⟨ha, e0, e1, e2⟩
    · rw [ha, if_neg (by decide)]
      rw [hv] at VA
      generalize (validT s L l).1 = v1 at *
      obtain ⟨sA, sc, cals, sB, sd, R, most⟩ := s
      clear hs h hl DI hv ha HA
      rcases e0 with e0 | ⟨e0, e1⟩
      all_goals
        go_enter Tryz.func59, Tryz.ntmps59
        go_wp2_with fail
        refine (VA _ Sx).calls.mono ?_
        rintro e _ ⟨rfl, z1, rfl⟩
        go_wp2_with fail
        go_returns
        exact ⟨rfl, Sx⟩
    · rw [ha, if_neg (by decide)]
      rw [hv] at VA
      rw [e2] at HA
      generalize (validT s L l).1 = v1 at *
      obtain ⟨sA, sc, cals, sB, sd, R, most⟩ := s
      clear hs h hl DI hv ha e2
      go_enter Tryz.func59, Tryz.ntmps59
      go_wp2_with fail
      refine (VA _ Sx).calls.mono ?_
      rintro e _ ⟨rfl, z1, rfl⟩
      go_wp2_with fail
      refine (HA _ Sx).calls.mono ?_
      rintro e _ ⟨rfl, z2, rfl⟩
      go_wp2_with fail
      go_returns
      exact ⟨rfl, Sx⟩
    · rw [if_pos ha]
      obtain ⟨hc, hg⟩ := validT_zero.1 hv
      obtain ⟨jb, rfl⟩ : ∃ q : Nat, j = q := ⟨j.toNat, by omega⟩
      have DJ := DI hc hg jb (by omega)
      rw [slotOpt_eq] at DJ
      generalize dispatchV s L l jb = o at *
      generalize slotOr o = x at *
      generalize o.isSome = b at *
      rw [hv] at VA
      rw [e2] at HA
      generalize (validT s L l).1 = v1 at *
      obtain ⟨x0, y0, x2, x3⟩ := x
      obtain ⟨sA, sc, cals, sB, sd, R, most⟩ := s
      clear hs h hl hc hg DI hv ha e2
      go_enter Tryz.func59, Tryz.ntmps59
      go_wp2_with fail
      refine (VA _ Sx).calls.mono ?_
      rintro e _ ⟨rfl, z1, rfl⟩
      go_wp2_with fail
      refine (HA _ Sx).calls.mono ?_
      rintro e _ ⟨rfl, z2, rfl⟩
      go_wp2_with fail
      (with_reducible refine (DJ _ Sx).calls.mono ?_)
      rintro e _ ⟨rfl, z3, rfl⟩
      go_wp2_with fail
      go_returns
      exact ⟨rfl, Sx⟩
  · rw [if_neg hv]
    have hv' : ((validT s L l).2 != 0) = true := by simpa using hv
    generalize validT s L l = vt at *
    obtain ⟨v1, v2⟩ := vt
    simp only at hv' VA
    obtain ⟨sA, sc, cals, sB, sd, R, most⟩ := s
    clear hs h hl DI hv HA
    go_enter Tryz.func59, Tryz.ntmps59
    go_wp2_with fail
    refine (VA _ Sx).calls.mono ?_
    rintro e _ ⟨rfl, z1, rfl⟩
    go_wp2_with fail
    go_returns
    exact ⟨rfl, Sx⟩
end Go.Proofs.YtpaojgfmffkodaaGreat
