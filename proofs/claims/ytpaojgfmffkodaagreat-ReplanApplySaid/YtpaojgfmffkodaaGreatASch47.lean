/- Layer 52 (the reference): has, ready, follows. -/
import Derived.Test.YtpaojgfmffkodaaGreatASchP2
import Derived.Test.YtpaojgfmffkodaaGreatASch28
import Derived.Test.YtpaojgfmffkodaaGreatASch32
import Derived.Deep.RegionLaw
import Derived.Deep.CutBlock
import Derived.Deep.RegionHeld3
namespace Go.Proofs.YtpaojgfmffkodaaGreat
set_option linter.unusedVariables false
set_option linter.unusedSimpArgs false
open Go.RowKit Go.Sort
attribute [local go_sem ↓] Go.wp_at_zero Go.wp_at_succ
set_option maxRecDepth 100000 in
set_option maxHeartbeats 4000000 in
theorem refFollows_any (s : ShopR) (A : Option Addr) (c : Nat) (L : List JobR) (a b : SlotR) (w : World) (hs : IsShop w s) (h : IsJobs w A c L) (gp : GoodP s L) (hm : 0 ≤ a.mach ∧ a.mach < s.cals.length) (ha : 0 ≤ a.job ∧ a.job < L.length) (hb : 0 ≤ b.job ∧ b.job < L.length) :
 Gives Tryz.prog 121 #[shopV s, .slice A L.length c, slotV a, slotV b] w (.bool (followsR s L a b)) := by
 apply Gives.ret
 obtain ⟨aj, am, a1, a2⟩ := a
 obtain ⟨bj, bm, b1, b2⟩ := b
 simp only at hm ha hb
 obtain ⟨m, rfl⟩ : ∃ m : Nat, am = m := ⟨am.toNat, by omega⟩
 obtain ⟨ja, rfl⟩ : ∃ m : Nat, aj = m := ⟨aj.toNat, by omega⟩
 obtain ⟨jb, rfl⟩ : ∃ m : Nat, bj = m := ⟨bj.toNat, by omega⟩
 have hm' : m < s.cals.length := by omega
 have ha' : ja < L.length := by omega
 have hb' : jb < L.length := by omega
 have hfb : followsR s L ⟨ja, m, a1, a2⟩ ⟨jb, bm, b1, b2⟩ = (!decide (b1 < a2) && decide (setupAt s L ja jb ≤ (workAt s m a2 b1).1)) := rfl
 by_cases hlt : b1 < a2
 · rw [hfb, show decide (b1 < a2) = true from by simpa using hlt]
   clear hs h gp hfb
   go_enter Tryz.func121, Tryz.ntmps121
   go_wp2_with fail
   go_returns
   exact ⟨by simp, Lx⟩
 · have hlt' : decide (b1 < a2) = false := by simpa using hlt
   rw [hfb, hlt']
   have hcl := hs.cals.len
   have hrl := hs.rows.len
   have hll := h.len
   have W := fun W hW => refWork_any (w := W) a2 b1 ((hs.cals.all _ (List.getElem_mem hm')).of hW)
   have e1 : workAt s m a2 b1 = workV s.cals[m].P s.cals[m].S s.cals[m].D a2 b1 := by unfold workAt; rw [calAt_at hm']
   obtain ⟨ca0, ca1⟩ := gp.cls _ (List.getElem_mem ha')
   obtain ⟨cb0, cb1⟩ := gp.cls _ (List.getElem_mem hb')
   have e2 : setupAt s L ja jb = get2 s.rows L[ja].cls.toNat L[jb].cls.toNat := by unfold setupAt; rw [jobAt_at ha', jobAt_at hb']
   obtain ⟨p, hp⟩ : ∃ p : Nat, L[ja].cls = p := ⟨L[ja].cls.toNat, by omega⟩
   obtain ⟨q, hq⟩ : ∃ q : Nat, L[jb].cls = q := ⟨L[jb].cls.toNat, by omega⟩
   have hp' : p < s.rows.length := by omega
   have hq' : q < s.rows.length := by omega
   rw [hp, hq, Int.toNat_natCast, Int.toNat_natCast] at e2
   have hz := gp.sz p hp'
   have hrw := hs.rows.all _ (List.getElem_mem hp')
   obtain ⟨gc, oc, hAc, hrc⟩ := hs.cals.row.at_ (by omega)
   obtain ⟨gj, oj, hAj, hrj⟩ := h.row.at_ (by omega)
   obtain ⟨gr, og, hAr, hrr⟩ := hs.rows.row.at_ (by omega)
   obtain ⟨gx, ox, hAx, hrx⟩ := hrw.1.at_ (by omega)
   have hOc := hrc.there
   have hOj := hrj.there
   have hOr := hrr.there
   have hOx := hrx.there
   have c0 := hrc.k0 m hm'
   have c1 := hrc.k1 m hm'
   have c2 := hrc.k2 m hm'
   have j2 := hrj.j2 ja ha'
   have i2 := hrj.j2 jb hb'
   have r0 := hrr.r0 p hp'
   have x0 := hrx.n0 q (by omega)
   rw [← get2_at hp' (by omega)] at x0
   rw [hp] at j2
   rw [hq] at i2
   rw [hAx, hz] at r0
   rw [e2, e1]
   simp only [pairV] at W
   generalize get2 s.rows p q = st at *
   generalize workV s.cals[m].P s.cals[m].S s.cals[m].D a2 b1 = wk at *
   obtain ⟨w1, w2⟩ := wk
   generalize s.cals[m] = K at *
   generalize s.rows[p].c = cx at *
   obtain ⟨sA, sc, cals, sB, sd, R, most⟩ := s
   simp only at *
   subst hAc hAj hAr
   clear hfb hs h gp hrc hrj hrr hrx hrw hAx e1 e2 hp hq hz
   go_enter Tryz.func121, Tryz.ntmps121
   go_wp2_with fail
   refine region_later (by kernel_rfl) (by kernel_rfl) ?_
   repeat (go_big_quiet_step ((with_reducible refine Gives.later (W _ Sx))))
   refine wpQuiet_nil ?_
   rintro _ ⟨x1, rfl⟩
   go_wp2_with fail
   refine region_later (by kernel_rfl) (by kernel_rfl) ?_
   repeat (go_big_quiet_step (fail))
   refine wpQuiet_nil ?_
   rintro _ ⟨x2, rfl⟩
   go_wp2_with fail
   go_returns
   exact ⟨by simp [*], Lx⟩
end Go.Proofs.YtpaojgfmffkodaaGreat
/- Layer 52 (the reference): fits. -/
namespace Go.Proofs.YtpaojgfmffkodaaGreat
set_option linter.unusedVariables false
set_option linter.unusedSimpArgs false
open Go.RowKit Go.Sort
attribute [local go_sem ↓] Go.wp_at_zero Go.wp_at_succ
set_option maxRecDepth 100000 in
set_option maxHeartbeats 16000000 in
theorem refFits_any (s : ShopR) (A : Option Addr) (c : Nat) (L : List JobR) (B : Option Addr) (d : Nat) (l : List SlotR) (x : SlotR) (w : World) (hs : IsShop w s) (h : IsJobs w A c L) (gp : GoodP s L) (hl : IsSlots w B d l) (hll : l.length < 4611686018427387904) (hn : NamedS s L l) :
 Gives Tryz.prog 80 #[shopV s, .slice A L.length c, .slice B l.length d, slotV x] w (.int .i64 (slotR s L l x)) := by
 apply Gives.ret
 have hcl := hs.cals.len
 have hrl := hs.rows.len
 have hjl := h.len
 have hni := nameB_iff (s := s) (L := L) (x := x)
 by_cases hnt : nameB s L x = true
 rotate_left 1
 · have hf : slotR s L l x = 6 := by unfold slotR; rw [if_pos (by simpa using hnt)]
   rw [hf]
   have hcase : (x.job < 0) ∨ (¬ x.job < 0 ∧ (L.length : Int) ≤ x.job) ∨ (¬ x.job < 0 ∧ ¬ (L.length : Int) ≤ x.job ∧ x.mach < 0) ∨ (¬ x.job < 0 ∧ ¬ (L.length : Int) ≤ x.job ∧ ¬ x.mach < 0 ∧ (s.cals.length : Int) ≤ x.mach) := by
    rw [hni] at hnt; omega
   obtain ⟨xj, xm, xs, xe⟩ := x
   obtain ⟨sA, sc, cals, sB, sd, R, most⟩ := s
   simp only at hcase hcl hrl
   clear hs h gp hl hn hnt hni hf
   rcases hcase with e0 | ⟨e0, e1⟩ | ⟨e0, e1, e2⟩ | ⟨e0, e1, e2, e3⟩
   all_goals
    go_enter Tryz.func80, Tryz.ntmps80
    go_wp2_with fail
    go_returns
    exact ⟨rfl, Lx⟩
 · obtain ⟨hxj, hxm⟩ := hni.1 hnt
   have hse : slotR s L l x = if l.any (fun y => y.job == x.job) = true then 7 else if (jobAt L x.job).ms.any (fun m => m == x.mach) = false then 25 else if x.start < (jobAt L x.job).rel then 22 else if shiftB s L x = false then 26 else if l.any (clashR s L x) = true then 27 else 0 := by
    unfold slotR; rw [if_neg (by rw [hnt]; simp)]
   rw [hse]
   clear hse hni
   have FO1 := fun (y : SlotR) (hy : 0 ≤ y.job ∧ y.job < L.length) W (hW : SinceOf w W) => refFollows_any s A c L x y W (hs.of hW) (h.of hW) gp hxm hxj hy
   have FO2 := fun (y : SlotR) (hy : 0 ≤ y.job ∧ y.job < L.length) (hm : y.mach = x.mach) W (hW : SinceOf w W) => refFollows_any s A c L y x W (hs.of hW) (h.of hW) gp (by rw [hm]; exact hxm) hy hxj
   have hcr : ∀ y : SlotR, clashR s L x y = ((y.mach == x.mach) && (!followsR s L x y && !followsR s L y x)) := fun _ => rfl
   obtain ⟨jn, hjn⟩ : ∃ m : Nat, x.job = m := ⟨x.job.toNat, by omega⟩
   obtain ⟨mn, hmn⟩ : ∃ m : Nat, x.mach = m := ⟨x.mach.toNat, by omega⟩
   have hj' : jn < L.length := by omega
   have hm' : mn < s.cals.length := by omega
   have ej : jobAt L x.job = L[jn] := by rw [hjn]; exact jobAt_at hj'
   have em : calAt s x.mach = s.cals[mn] := by rw [hmn]; exact calAt_at hm'
   have hsb : shiftB s L x = (openV s.cals[mn].P s.cals[mn].S s.cals[mn].D x.start && ((finishV s.cals[mn].P s.cals[mn].S s.cals[mn].D x.start L[jn].dur).2 == 0 && (finishV s.cals[mn].P s.cals[mn].S s.cals[mn].D x.start L[jn].dur).1 == x.stop)) := by
    unfold shiftB openAt finishAt; rw [ej, em]
   rw [ej, hsb]
   have hka := hs.cals.all _ (List.getElem_mem hm')
   have hja := h.all _ (List.getElem_mem hj')
   have FI := fun W hW => refFinish_any (w := W) x.start L[jn].dur (hka.of hW)
   have OP := fun W hW => refOpenAt_any (w := W) x.start (hka.of hW)
   simp only [pairV] at FI
   obtain ⟨gc, oc, hAc, hrc⟩ := hs.cals.row.at_ (by omega)
   obtain ⟨gj, oj, hAj, hrj⟩ := h.row.at_ (by omega)
   have hOc := hrc.there
   have hOj := hrj.there
   have c0 := hrc.k0 mn hm'
   have c1 := hrc.k1 mn hm'
   have c2 := hrc.k2 mn hm'
   have j0 := hrj.j0 jn hj'
   have j1 := hrj.j1 jn hj'
   have j2 := hrj.j2 jn hj'
   have j3 := hrj.j3 jn hj'
   have j4 := hrj.j4 jn hj'
   have j5 := hrj.j5 jn hj'
   have hjm := hja.1
   have hjml := hja.2
   generalize L[jn] = J at *
   generalize s.cals[mn] = K at *
   generalize finishV K.P K.S K.D x.start J.dur = fv at *
   generalize openV K.P K.S K.D x.start = ov at *
   obtain ⟨fe, fr⟩ := fv
   obtain ⟨q3, hq3⟩ : ∃ q, q = l.any (fun y => y.job == x.job) := ⟨_, rfl⟩
   obtain ⟨q4, hq4⟩ : ∃ q, q = J.ms.any (fun m => m == x.mach) := ⟨_, rfl⟩
   obtain ⟨q5, hq5⟩ : ∃ q, q = l.any (clashR s L x) := ⟨_, rfl⟩
   obtain ⟨v, hv⟩ : ∃ v : Int, v = (if l.any (fun y => y.job == x.job) = true then 7 else if J.ms.any (fun m => m == x.mach) = false then 25 else if x.start < J.rel then 22 else if (ov && (fr == 0 && fe == x.stop)) = false then 26 else if l.any (clashR s L x) = true then 27 else 0) := ⟨_, rfl⟩
   rw [← hv]
   rw [← hq3, ← hq4, ← hq5] at hv
   have e0 : ¬ (jn : Int) < 0 := by omega
   have e1 : ¬ (L.length : Int) ≤ jn := by omega
   have e2 : ¬ (mn : Int) < 0 := by omega
   have e3 : ¬ (s.cals.length : Int) ≤ mn := by omega
   obtain ⟨xj, xm, xs, xe⟩ := x
   obtain ⟨jA, jc, ms, dur, cls, rel, due, ord⟩ := J
   simp only at *
   subst hjn hmn hAj
   have HN := Lib.hid (And.intro hl (And.intro hn (And.intro hjm (And.intro hq3 (And.intro hq4 (And.intro hq5 (And.intro hcr hv)))))))
   obtain ⟨sA, sc, cals, sB, sd, R, most⟩ := s
   simp only at *
   subst hAc
   clear hs h gp hl hn hnt hrc hrj hka hja hjm ej em hsb hv hq3 hq4 hq5 hcr hxj hxm
   go_enter Tryz.func80, Tryz.ntmps80
   go_wp2_with fail
   go_loopg [9] l.length (fun gas s9 wr => ∃ k : Nat, k ≤ l.length ∧ l.length - k ≤ gas ∧ s9 = .int .i64 k ∧ LaterOf ((w.alloc (.cells #[.slice (some ⟨gc, oc, none⟩) cals.length sc, .slice sB R.length sd, .int .i64 most] 25)).alloc (.cells #[.int .i64 jn, .int .i64 mn, .int .i64 xs, .int .i64 xe] 77)) wr ∧ q3 = (l.drop k).any (fun y => y.job == (jn : Int)))
   case atStart => exact ⟨0, by omega, by omega, rfl, Lx, by rw [List.drop_zero]; exact HN.out.2.2.2.1⟩
   case round =>
    obtain ⟨k, hk, hgas, rfl, ⟨z, rfl⟩, hany⟩ := hrel
    by_cases hlt : k < l.length
    · rw [any_drop _ hlt] at hany
      have hrl' := HN.out.1.of (w' := z.wd) Sx
      obtain ⟨g, off, rfl, hr⟩ := hrl'.at_ (by omega)
      have hO := hr.there
      have s0 := hr.s0 k hlt
      generalize l[k].job = yj at *
      clear hr hrl' FO1 FO2 FI OP c0 c1 c2 j0 j1 j2 j3 j4 j5
      by_cases he : yj = (jn : Int)
      · have e : (yj == (jn : Int)) = true := by simpa using he
        rw [e, Bool.true_or] at hany
        have HA := Lib.hid hany
        clear hany he
        go_wp2_with fail
        refine region_later (by kernel_rfl) (by kernel_rfl) ?_
        repeat (go_big_quiet_step (fail))
        refine wpQuiet_nil ?_
        rintro _ ⟨z1, rfl⟩
        go_wp2_with fail
        go_returns
        exact ⟨by have := HN.out.2.2.2.2.2.2.2; rw [HA.out] at this; rw [this]; rfl, Lx⟩
      · have e : (yj == (jn : Int)) = false := by simpa using he
        rw [e, Bool.false_or] at hany
        have HA := Lib.hid hany
        clear hany he
        go_wp2_with fail
        refine region_later (by kernel_rfl) (by kernel_rfl) ?_
        repeat (go_big_quiet_step (fail))
        refine wpQuiet_nil ?_
        rintro _ ⟨z1, rfl⟩
        go_wp2_with fail
        go_roundg (l.length - (k + 1))
        case measure => omega
        case rel => exact ⟨k + 1, hlt, Nat.le_refl _, by go_num, Lx, HA.out⟩
    · have hkl : k = l.length := by omega
      rw [hkl, List.drop_length] at hany
      have HA := Lib.hid hany
      clear hany hkl
      go_wp2_with fail
      go_loopg [11, 12] ms.length (fun gas s11 s12 wr => ∃ k : Nat, k ≤ ms.length ∧ ms.length - k ≤ gas ∧ s11 = .bool ((ms.take k).any (fun m => m == (mn : Int))) ∧ s12 = .int .i64 k ∧ LaterOf (z.wd.alloc (.cells #[.slice jA ms.length jc, .int .i64 dur, .int .i64 cls, .int .i64 rel, .int .i64 due, .int .i64 ord] 87)) wr)
      case atStart => exact ⟨0, by omega, by omega, rfl, rfl, Lx⟩
      case round =>
       obtain ⟨i, hi, hgas2, rfl, rfl, ⟨z2, rfl⟩⟩ := hrel
       by_cases hlti : i < ms.length
       · have hta : (ms.take (i + 1)).any (fun m => m == (mn : Int)) = ((ms.take i).any (fun m => m == (mn : Int)) || ms[i] == (mn : Int)) := by rw [List.take_succ_eq_append_getElem hlti, List.any_append]; simp
         have hrl' := HN.out.2.2.1.of (w' := z2.wd) Sx
         obtain ⟨g, off, rfl, hr⟩ := hrl'.at_ (by omega)
         have hO := hr.there
         have m0 := hr.n0 i hlti
         generalize ms[i] = mi at *
         generalize (ms.take i).any (fun m => m == (mn : Int)) = b at *
         have HT := Lib.hid hta
         clear hr hrl' FO1 FO2 FI OP c0 c1 c2 j0 j1 j2 j3 j4 j5 hta
         cases b
         · go_wp2_with fail
           refine region_later (by kernel_rfl) (by kernel_rfl) ?_
           repeat (go_big_quiet_step (fail))
           refine wpQuiet_nil ?_
           rintro _ ⟨z3, rfl⟩
           go_wp2_with fail
           go_roundg (ms.length - (i + 1))
           case measure => omega
           case rel => exact ⟨i + 1, hlti, Nat.le_refl _, by rw [HT.out]; rfl, by go_num, Lx⟩
         · go_wp2_with fail
           refine region_later (by kernel_rfl) (by kernel_rfl) ?_
           repeat (go_big_quiet_step (fail))
           refine wpQuiet_nil ?_
           rintro _ ⟨z3, rfl⟩
           go_wp2_with fail
           go_roundg (ms.length - (i + 1))
           case measure => omega
           case rel => exact ⟨i + 1, hlti, Nat.le_refl _, by rw [HT.out]; rfl, by go_num, Lx⟩
       · have hil : i = ms.length := by omega
         have hq4 := HN.out.2.2.2.2.1
         rw [hil, List.take_length, ← hq4]
         clear hq4 hil
         have hq3 : q3 = false := by rw [HA.out]; rfl
         subst hq3
         have HV := Lib.hid HN.out.2.2.2.2.2.2.2
         cases q4
         · go_wp2_with fail
           go_returns
           exact ⟨by rw [HV.out]; rfl, Lx⟩
         · by_cases hrel : xs < rel
           · have f1 : decide (xs < rel) = true := by simpa using hrel
             go_wp2_with fail
             go_returns
             exact ⟨by rw [HV.out]; simp [hrel], Lx⟩
           · have f1 : decide (xs < rel) = false := by simpa using hrel
             have HV0 := HV.out
             rw [if_neg (by simp), if_neg (by simp), if_neg hrel] at HV0
             have HV := Lib.hid HV0
             clear hrel HV0
             have hsh : (fr ≠ 0 ∧ (fr == 0) = false) ∨ (ov = false ∧ fr = 0) ∨ (ov = true ∧ fr = 0 ∧ (fe != xe) = true ∧ (fe == xe) = false) ∨ (ov = true ∧ fr = 0 ∧ fe = xe) := by
              by_cases h0 : fr = 0
              · cases ov
                · exact .inr (.inl ⟨rfl, h0⟩)
                · by_cases h1 : fe = xe
                  · exact .inr (.inr (.inr ⟨rfl, h0, h1⟩))
                  · exact .inr (.inr (.inl ⟨rfl, h0, by simpa using h1, by simpa using h1⟩))
              · exact .inl ⟨h0, by simpa using h0⟩
             rcases hsh with ⟨t1, t2⟩ | ⟨rfl, rfl⟩ | ⟨rfl, rfl, t1, t2⟩ | ⟨rfl, rfl, rfl⟩
             · have t1 : (fr != 0) = true := by simpa using t1
               go_wp2_with fail
               refine region_later (by kernel_rfl) (by kernel_rfl) ?_
               repeat (go_big_quiet_step ((with_reducible refine Gives.later (FI _ Sx))))
               refine wpQuiet_nil ?_
               rintro _ ⟨z3, rfl⟩
               go_wp2_with fail
               refine region_later (by kernel_rfl) (by kernel_rfl) ?_
               repeat (go_big_quiet_step ((with_reducible refine Gives.later (OP _ Sx))))
               refine wpQuiet_nil ?_
               rintro _ ⟨z4, rfl⟩
               go_wp2_with fail
               go_returns
               exact ⟨by rw [HV.out]; simp [t2], Lx⟩
             · go_wp2_with fail
               refine region_later (by kernel_rfl) (by kernel_rfl) ?_
               repeat (go_big_quiet_step ((with_reducible refine Gives.later (FI _ Sx))))
               refine wpQuiet_nil ?_
               rintro _ ⟨z3, rfl⟩
               go_wp2_with fail
               refine region_later (by kernel_rfl) (by kernel_rfl) ?_
               repeat (go_big_quiet_step ((with_reducible refine Gives.later (OP _ Sx))))
               refine wpQuiet_nil ?_
               rintro _ ⟨z4, rfl⟩
               go_wp2_with fail
               go_returns
               exact ⟨by rw [HV.out]; simp, Lx⟩
             · go_wp2_with fail
               refine region_later (by kernel_rfl) (by kernel_rfl) ?_
               repeat (go_big_quiet_step ((with_reducible refine Gives.later (FI _ Sx))))
               refine wpQuiet_nil ?_
               rintro _ ⟨z3, rfl⟩
               go_wp2_with fail
               refine region_later (by kernel_rfl) (by kernel_rfl) ?_
               repeat (go_big_quiet_step ((with_reducible refine Gives.later (OP _ Sx))))
               refine wpQuiet_nil ?_
               rintro _ ⟨z4, rfl⟩
               go_wp2_with fail
               go_returns
               exact ⟨by rw [HV.out]; simp [t2], Lx⟩
             · simp only [beq_self_eq_true, Bool.and_self] at HV
               go_wp2_with fail
               refine region_later (by kernel_rfl) (by kernel_rfl) ?_
               repeat (go_big_quiet_step ((with_reducible refine Gives.later (FI _ Sx))))
               refine wpQuiet_nil ?_
               rintro _ ⟨z3, rfl⟩
               go_wp2_with fail
               refine region_later (by kernel_rfl) (by kernel_rfl) ?_
               repeat (go_big_quiet_step ((with_reducible refine Gives.later (OP _ Sx))))
               refine wpQuiet_nil ?_
               rintro _ ⟨z4, rfl⟩
               go_wp2_with fail
               clear FI OP c0 c1 c2 j0 j1 j2 j3 j4 j5
               go_loopg [15] l.length (fun gas s15 wr => ∃ k : Nat, k ≤ l.length ∧ l.length - k ≤ gas ∧ s15 = .int .i64 k ∧ LaterOf z4.wd wr ∧ q5 = (l.drop k).any (clashR ⟨some ⟨gc, oc, none⟩, sc, cals, sB, sd, R, most⟩ L ⟨jn, mn, xs, fe⟩))
               case atStart => exact ⟨0, by omega, by omega, rfl, Lx, by rw [List.drop_zero]; exact HN.out.2.2.2.2.2.1⟩
               case round =>
                obtain ⟨n, hn, hgas3, rfl, ⟨z5, rfl⟩, hq⟩ := hrel
                by_cases hltn : n < l.length
                · rw [any_drop _ hltn, HN.out.2.2.2.2.2.2.1] at hq
                  have hrl' := HN.out.1.of (w' := z5.wd) Sx
                  obtain ⟨g, off, rfl, hr⟩ := hrl'.at_ (by omega)
                  have hO := hr.there
                  have s0 := hr.s0 n hltn
                  have s1 := hr.s1 n hltn
                  have s2 := hr.s2 n hltn
                  have s3 := hr.s3 n hltn
                  have hyj := (nameB_iff.1 (HN.out.2.1 _ (List.getElem_mem hltn))).1
                  have F1 := FO1 _ hyj
                  have F2 := FO2 _ hyj
                  generalize followsR ⟨some ⟨gc, oc, none⟩, sc, cals, sB, sd, R, most⟩ L ⟨jn, mn, xs, fe⟩ l[n] = b1 at *
                  generalize followsR ⟨some ⟨gc, oc, none⟩, sc, cals, sB, sd, R, most⟩ L l[n] ⟨jn, mn, xs, fe⟩ = b2 at *
                  generalize l[n] = y at *
                  obtain ⟨yj, ym, ys, ye⟩ := y
                  simp only at *
                  clear hr hrl' hyj
                  by_cases hm : ym = (mn : Int)
                  · have F3 := F2 hm
                    clear F2
                    subst hm
                    rw [show ((mn : Int) == (mn : Int)) = true from by simp, Bool.true_and] at hq
                    cases b1
                    · cases b2
                      · simp only [Bool.not_false, Bool.and_self, Bool.true_or] at hq
                        have HQ := Lib.hid hq
                        clear hq
                        go_wp2_with fail
                        refine (F1 _ Sx).calls.mono ?_
                        rintro e _ ⟨rfl, x1, rfl⟩
                        go_wp2_with fail
                        refine (F3 _ Sx).calls.mono ?_
                        rintro e _ ⟨rfl, x2, rfl⟩
                        go_wp2_with fail
                        go_returns
                        exact ⟨by rw [HV.out, HQ.out]; rfl, Lx⟩
                      · simp only [Bool.not_false, Bool.not_true, Bool.and_false, Bool.false_or] at hq
                        have HQ := Lib.hid hq
                        clear hq
                        go_wp2_with fail
                        refine (F1 _ Sx).calls.mono ?_
                        rintro e _ ⟨rfl, x1, rfl⟩
                        go_wp2_with fail
                        refine (F3 _ Sx).calls.mono ?_
                        rintro e _ ⟨rfl, x2, rfl⟩
                        go_wp2_with fail
                        go_roundg (l.length - (n + 1))
                        case measure => omega
                        case rel => exact ⟨n + 1, hltn, Nat.le_refl _, by go_num, Lx, HQ.out⟩
                    · simp only [Bool.not_true, Bool.false_and, Bool.false_or] at hq
                      have HQ := Lib.hid hq
                      clear hq
                      go_wp2_with fail
                      refine (F1 _ Sx).calls.mono ?_
                      rintro e _ ⟨rfl, x1, rfl⟩
                      go_wp2_with fail
                      go_roundg (l.length - (n + 1))
                      case measure => omega
                      case rel => exact ⟨n + 1, hltn, Nat.le_refl _, by go_num, Lx, HQ.out⟩
                  · have e : (ym == (mn : Int)) = false := by simpa using hm
                    rw [e, Bool.false_and, Bool.false_or] at hq
                    have HQ := Lib.hid hq
                    clear hq hm F1 F2 FO1 FO2
                    go_wp2_with fail
                    go_roundg (l.length - (n + 1))
                    case measure => omega
                    case rel => exact ⟨n + 1, hltn, Nat.le_refl _, by go_num, Lx, HQ.out⟩
                · have hnl : n = l.length := by omega
                  rw [hnl, List.drop_length] at hq
                  have HQ := Lib.hid hq
                  clear hq hnl
                  go_wp2_with fail
                  go_returns
                  exact ⟨by rw [HV.out, HQ.out]; rfl, Lx⟩
end Go.Proofs.YtpaojgfmffkodaaGreat
/- Layer 52 (the reference): open. -/
namespace Go.Proofs.YtpaojgfmffkodaaGreat
set_option linter.unusedVariables false
set_option linter.unusedSimpArgs false
open Go.RowKit Go.Sort
attribute [local go_sem ↓] Go.wp_at_zero Go.wp_at_succ
theorem firstN_succ (L : List JobR) (l : List SlotR) (k i : Nat) : firstN L l k (i + 1) = (firstN L l k i && (!(ordK L l i == ordK L l k) || decide (k ≤ i))) := by
 unfold firstN; rw [List.range_succ, List.all_append]; simp
theorem any_take_succ {α : Type} (p : α → Bool) {l : List α} {i : Nat} (h : i < l.length) : (l.take (i + 1)).any p = ((l.take i).any p || p l[i]) := by
 rw [List.take_succ_eq_append_getElem h, List.any_append]; simp
theorem ordK_at {L : List JobR} {l : List SlotR} {k : Nat} (h : k < l.length) : ordK L l k = (jobAt L l[k].job).ord := by unfold ordK ordAt; rw [getS_at h]
set_option maxRecDepth 100000 in
set_option maxHeartbeats 16000000 in
theorem refOpen52_any (A : Option Addr) (c : Nat) (L : List JobR) (B : Option Addr) (d : Nat) (l : List SlotR) (t : Int) (w : World) (h : IsJobs w A c L) (hl : IsSlots w B d l) (hll : l.length < 4611686018427387904) (hn : ∀ y ∈ l, 0 ≤ y.job ∧ y.job < L.length) :
 Gives Tryz.prog 81 #[.slice A L.length c, .slice B l.length d, .int .i64 t] w (.int .i64 (openR L t l)) := by
 apply Gives.ret
 have hjl := h.len
 have H := Lib.hid (And.intro h (And.intro hl hn))
 clear h hl hn
 go_enter Tryz.func81, Tryz.ntmps81
 go_wp2_with fail
 go_loopg [7, 8] l.length (fun gas s7 s8 wr => ∃ k : Nat, k ≤ l.length ∧ l.length - k ≤ gas ∧ s7 = .int .i64 (openTR L t l k) ∧ s8 = .int .i64 k ∧ LaterOf w wr)
 case atStart => exact ⟨0, by omega, by omega, rfl, rfl, Lx⟩
 case round =>
  obtain ⟨k, hk, hgas, rfl, rfl, ⟨z, rfl⟩⟩ := hrel
  by_cases hlt : k < l.length
  · have hst := openTR_succ L t l k
    have hle := openTR_le L t l k
    have hsr : stepR L t l k = (firstN L l k l.length && (begunI L t l (ordK L l k) && runI L t l (ordK L l k))) := rfl
    have hrl' := H.out.2.1.of (w' := z.wd) Sx
    have hjl' := H.out.1.of (w' := z.wd) Sx
    have hkj := H.out.2.2 _ (List.getElem_mem hlt)
    obtain ⟨g, off, rfl, hr⟩ := hrl'.at_ (by omega)
    obtain ⟨gj, oj, rfl, hrj⟩ := hjl'.row.at_ (by omega)
    have hO := hr.there
    have hOj := hrj.there
    have s0 := hr.s0 k hlt
    obtain ⟨jn, ejn⟩ : ∃ m : Nat, l[k].job = m := ⟨l[k].job.toNat, by omega⟩
    have hjn : jn < L.length := by omega
    have jc := hrj.j5 jn hjn
    have hok : L[jn].ord = ordK L l k := by rw [ordK_at hlt, ejn, jobAt_at hjn]
    rw [hok] at jc
    rw [ejn] at s0
    generalize hoo : ordK L l k = o at *
    generalize openTR L t l k = cn at *
    have HR := Lib.hid (And.intro hr hrj)
    have HS := Lib.hid (And.intro hst (And.intro hsr hoo))
    clear hr hrj hrl' hjl' hok ejn hst hsr hoo hkj
    go_wp2_with fail
    go_loopg [10, 11, 12, 13] l.length (fun gas s10 s11 s12 s13 wr => ∃ i : Nat, i ≤ l.length ∧ l.length - i ≤ gas ∧ s10 = .bool (firstN L l k i) ∧ s11 = .bool ((l.take i).any fun x => ordAt L x == o && decide (x.start ≤ t)) ∧ s12 = .bool ((l.take i).any fun x => ordAt L x == o && decide (t < x.stop)) ∧ s13 = .int .i64 i ∧ LaterOf z.wd wr)
    case atStart => exact ⟨0, by omega, by omega, rfl, rfl, rfl, rfl, Lx⟩
    case round =>
     obtain ⟨i, hi, hgas2, rfl, rfl, rfl, rfl, ⟨z2, rfl⟩⟩ := hrel
     by_cases hlti : i < l.length
     · have f1 := firstN_succ L l k i
       have f2 := any_take_succ (fun x => ordAt L x == o && decide (x.start ≤ t)) hlti
       have f3 := any_take_succ (fun x => ordAt L x == o && decide (t < x.stop)) hlti
       have e3 : ordAt L l[i] = ordK L l i := by unfold ordK; rw [getS_at hlti]
       rw [HS.out.2.2] at f1
       rw [e3] at f2 f3
       have s1 := HR.out.1.s0 i hlti
       have s2 := HR.out.1.s2 i hlti
       have s3 := HR.out.1.s3 i hlti
       have hkj := H.out.2.2 _ (List.getElem_mem hlti)
       obtain ⟨jm, ejm⟩ : ∃ m : Nat, l[i].job = m := ⟨l[i].job.toNat, by omega⟩
       have hjm : jm < L.length := by omega
       have jd := HR.out.2.j5 jm hjm
       have hok : L[jm].ord = ordK L l i := by rw [ordK_at hlti, ejm, jobAt_at hjm]
       rw [hok] at jd
       rw [ejm] at s1
       generalize ordK L l i = oi at *
       generalize l[i].start = xs at *
       generalize l[i].stop = xe at *
       generalize firstN L l k i = b1 at *
       generalize ((l.take i).any fun x => ordAt L x == o && decide (x.start ≤ t)) = b2 at *
       generalize ((l.take i).any fun x => ordAt L x == o && decide (t < x.stop)) = b3 at *
       clear hkj ejm hok e3
       by_cases he : oi = o
       · have e : (oi == o) = true := by simpa using he
         rw [e] at f1 f2 f3
         have HF := Lib.hid (And.intro f1 (And.intro f2 f3))
         clear f1 f2 f3 he
         cases b1 <;> cases b2 <;> cases b3
         all_goals
          go_wp2_with fail
          go_roundg (l.length - (i + 1))
          case measure => omega
          case rel => exact ⟨i + 1, hlti, Nat.le_refl _, by rw [HF.out.1]; simp, by rw [HF.out.2.1]; simp, by rw [HF.out.2.2]; simp, by go_num, Lx⟩
       · have e : (oi == o) = false := by simpa using he
         rw [e] at f1 f2 f3
         have HF := Lib.hid (And.intro f1 (And.intro f2 f3))
         clear f1 f2 f3 he s2 s3
         go_wp2_with fail
         go_roundg (l.length - (i + 1))
         case measure => omega
         case rel => exact ⟨i + 1, hlti, Nat.le_refl _, by rw [HF.out.1]; simp, by rw [HF.out.2.1]; simp, by rw [HF.out.2.2]; simp, by go_num, Lx⟩
     · have hil : i = l.length := by omega
       have e1 : firstN L l k i = firstN L l k l.length := by rw [hil]
       have e2 : ((l.take i).any fun x => ordAt L x == o && decide (x.start ≤ t)) = begunI L t l o := by rw [hil, List.take_length]; rfl
       have e3 : ((l.take i).any fun x => ordAt L x == o && decide (t < x.stop)) = runI L t l o := by rw [hil, List.take_length]; rfl
       rw [e1, e2, e3]
       have hs1 := HS.out.1
       rw [HS.out.2.1] at hs1
       generalize firstN L l k l.length = b1 at *
       generalize begunI L t l o = b2 at *
       generalize runI L t l o = b3 at *
       have HC := Lib.hid hs1
       clear e1 e2 e3 hs1 hil s0 jc
       cases b1 <;> cases b2 <;> cases b3
       all_goals
        go_wp2_with fail
        go_roundg (l.length - (k + 1))
        case measure => omega
        case rel => exact ⟨k + 1, hlt, Nat.le_refl _, by rw [HC.out]; simp, by go_num, Lx⟩
  · have hkl : k = l.length := by omega
    have e : openR L t l = openTR L t l k := by rw [hkl]; rfl
    generalize openTR L t l k = v at *
    have HE := Lib.hid e
    clear e hkl
    go_wp2_with fail
    go_returns
    exact ⟨by rw [HE.out]; rfl, Lx⟩
end Go.Proofs.YtpaojgfmffkodaaGreat
/- Layer 52 (the reference): Valid. -/
namespace Go.Proofs.YtpaojgfmffkodaaGreat
set_option linter.unusedVariables false
set_option linter.unusedSimpArgs false
open Go.RowKit Go.Sort
attribute [local go_sem ↓] Go.wp_at_zero Go.wp_at_succ
set_option maxRecDepth 100000 in
set_option maxHeartbeats 8000000 in
theorem refValid52_any (s : ShopR) (A : Option Addr) (c : Nat) (L : List JobR) (B : Option Addr) (d : Nat) (l : List SlotR) (w : World) (hs : IsShop w s) (h : IsJobs w A c L) (hl : IsSlots w B d l) (hll : l.length < 4611686018427387904) (hcap : l.length ≤ d) :
 Gives Tryz.prog 42 #[shopV s, .slice A L.length c, .slice B l.length d] w (.tuple #[.int .i64 (validT s L l).1, .int .i64 (validT s L l).2]) := by
 apply Gives.ret
 have CH := fun W hW => refCheck52_any s A c L W (hs.of hW) (h.of hW)
 rw [← validRT_eq]
 cases hc : refCheckB s L
 · rw [hc] at CH
   rw [if_neg (by simp)]
   clear hs h hl hc
   obtain ⟨sA, sc, cals, sB, sd, R, most⟩ := s
   go_enter Tryz.func42, Tryz.ntmps42
   go_wp2_with fail
   refine (CH _ Sx).calls.mono ?_
   rintro e _ ⟨rfl, x1, rfl⟩
   go_wp2_with fail
   go_returns
   exact ⟨rfl, Lx⟩
 · rw [if_pos rfl]
   have gp := check_good (by rw [← refCheck_eq]; exact hc)
   rw [hc] at CH
   obtain ⟨v1, hv1⟩ : ∃ v, v = (validR s L l).1 := ⟨_, rfl⟩
   obtain ⟨v2, hv2⟩ : ∃ v, v = (validR s L l).2 := ⟨_, rfl⟩
   have SL := fun (k : Nat) (hk : k ≤ l.length) (hn : NamedS s L (l.take k)) x W (hW : SinceOf w W) => refFits_any s A c L B d (l.take k) x W (hs.of hW) (h.of hW) gp ((hl.take k).of hW) (by rw [List.length_take]; omega) hn
   have HO := Lib.hid (And.intro hl (And.intro h (And.intro hv1 hv2)))
   rw [← hv1, ← hv2]
   have hnr : ∀ k, fitR s L l k = 0 → nameB s L (l.getD k noSlot) = true := by
    intro k e
    unfold fitR slotR at e
    cases hn : nameB s L (l.getD k noSlot)
    · rw [if_pos hn] at e; cases e
    · rfl
   obtain ⟨sA, sc, cals, sB, sd, R, most⟩ := s
   have HN := Lib.hid hnr
   clear hs h gp hl hv1 hv2 hc hnr
   go_enter Tryz.func42, Tryz.ntmps42
   go_wp2_with fail
   refine (CH _ Sx).calls.mono ?_
   rintro e _ ⟨rfl, x1, rfl⟩
   clear CH
   go_wp2_with fail
   go_loopg [8] l.length (fun gas s8 wr => ∃ k : Nat, k ≤ l.length ∧ l.length - k ≤ gas ∧ s8 = .int .i64 k ∧ LaterOf x1.wd wr ∧ NamedS ⟨sA, sc, cals, sB, sd, R, most⟩ L (l.take k) ∧
    firstBad (fitR ⟨sA, sc, cals, sB, sd, R, most⟩ L l) (List.range l.length) = firstBad (fitR ⟨sA, sc, cals, sB, sd, R, most⟩ L l) ((List.range l.length).drop k))
   case atStart => exact ⟨0, by omega, by omega, rfl, Lx, (by intro y hy; simp at hy), by rw [List.drop_zero]⟩
   case round =>
    obtain ⟨k, hk, hgas, rfl, ⟨z, rfl⟩, hnam, hfb⟩ := hrel
    by_cases hlt : k < l.length
    · rw [firstBad_drop _ hlt] at hfb
      have SK := SL k hk hnam l[k]
      have hfe : fitR ⟨sA, sc, cals, sB, sd, R, most⟩ L l k = slotR ⟨sA, sc, cals, sB, sd, R, most⟩ L (l.take k) l[k] := by unfold fitR; rw [getS_at hlt]
      rw [show (l.take k).length = k from by rw [List.length_take]; omega, ← hfe] at SK
      have hrl := HO.out.1.of (w' := z.wd) Sx
      obtain ⟨g, off, rfl, hr⟩ := hrl.at_ (by omega)
      have hO := hr.there
      have s0 := hr.s0 k hlt
      have s1 := hr.s1 k hlt
      have s2 := hr.s2 k hlt
      have s3 := hr.s3 k hlt
      have hkd : k ≤ d := by omega
      have hnext : fitR ⟨sA, sc, cals, sB, sd, R, most⟩ L l k = 0 → NamedS ⟨sA, sc, cals, sB, sd, R, most⟩ L (l.take (k + 1)) := by
       intro e y hy
       rw [List.take_succ_eq_append_getElem hlt, List.mem_append] at hy
       rcases hy with hy | hy
       · exact hnam y hy
       · rw [List.mem_singleton] at hy
         have := HN.out k e
         rw [getS_at hlt] at this
         rw [hy]; exact this
      generalize l[k] = x at *
      generalize fitR ⟨sA, sc, cals, sB, sd, R, most⟩ L l k = fe at *
      have HF := Lib.hid (And.intro hfb hnext)
      clear hfb hnext hnam hfe hr hrl
      by_cases h0 : fe = 0
      · subst h0
        go_wp2_with fail
        refine region_later (by kernel_rfl) (by kernel_rfl) ?_
        repeat (go_big_quiet_step ((with_reducible refine Gives.later (SK _ Sx))))
        refine wpQuiet_nil ?_
        rintro _ ⟨z2, rfl⟩
        go_wp2_with fail
        go_roundg (l.length - (k + 1))
        case measure => omega
        case rel => exact ⟨k + 1, hlt, Nat.le_refl _, by go_num, Lx, HF.out.2 (by trivial), by rw [HF.out.1, if_pos (by trivial)]⟩
      · have hne : (fe != 0) = true := by simpa using h0
        have HN := Lib.hid h0
        clear h0
        go_wp2_with fail
        refine region_later (by kernel_rfl) (by kernel_rfl) ?_
        repeat (go_big_quiet_step ((with_reducible refine Gives.later (SK _ Sx))))
        refine wpQuiet_nil ?_
        rintro _ ⟨z2, rfl⟩
        go_wp2_with fail
        go_returns
        have hvv : validR ⟨sA, sc, cals, sB, sd, R, most⟩ L l = ((k : Int), fe) := by unfold validR; rw [HF.out.1, if_neg HN.out]
        refine ⟨?_, Lx⟩
        rw [HO.out.2.2.1, HO.out.2.2.2, hvv]
        try rfl
    · have hkl : k = l.length := by omega
      rw [hkl, firstBad_end] at hfb
      rw [hkl, List.take_length] at hnam
      have OP := fun t W (hW : SinceOf w W) => refOpen52_any A c L B d l t W (HO.out.2.1.of hW) (HO.out.1.of hW) hll (fun y hy => (nameB_iff.1 (hnam y hy)).1)
      have HF := Lib.hid hfb
      clear hfb hnam hkl SL
      go_wp2_with fail
      go_loopg [10] l.length (fun gas s10 wr => ∃ k : Nat, k ≤ l.length ∧ l.length - k ≤ gas ∧ s10 = .int .i64 k ∧ LaterOf x1.wd wr ∧
       firstBad (openRE ⟨sA, sc, cals, sB, sd, R, most⟩ L l) (List.range l.length) = firstBad (openRE ⟨sA, sc, cals, sB, sd, R, most⟩ L l) ((List.range l.length).drop k))
      case atStart => exact ⟨0, by omega, by omega, rfl, Lx, by rw [List.drop_zero]⟩
      case round =>
       obtain ⟨i, hi, hgas2, rfl, ⟨z3, rfl⟩, hfb2⟩ := hrel
       by_cases hlti : i < l.length
       · rw [firstBad_drop _ hlti] at hfb2
         have hoe : openRE ⟨sA, sc, cals, sB, sd, R, most⟩ L l i = if most < openR L l[i].start l then 28 else 0 := by unfold openRE; rw [getS_at hlti]
         have OK := OP l[i].start
         have hrl := HO.out.1.of (w' := z3.wd) Sx
         obtain ⟨g, off, rfl, hr⟩ := hrl.at_ (by omega)
         have hO := hr.there
         have s0 := hr.s0 i hlti
         have s1 := hr.s1 i hlti
         have s2 := hr.s2 i hlti
         have s3 := hr.s3 i hlti
         generalize l[i].start = xs at *
         generalize l[i].stop = xe at *
         generalize l[i].mach = xm at *
         generalize l[i].job = xj at *
         generalize openR L xs l = on at *
         clear hr hrl
         by_cases hlt3 : most < on
         · rw [hoe, if_pos hlt3, if_neg (by omega)] at hfb2
           have hd : decide (most < on) = true := by simpa using hlt3
           have HG := Lib.hid hfb2
           clear hfb2 hoe hlt3
           go_wp2_with fail
           refine region_later (by kernel_rfl) (by kernel_rfl) ?_
           repeat (go_big_quiet_step ((with_reducible refine Gives.later (OK _ Sx))))
           refine wpQuiet_nil ?_
           rintro _ ⟨z4, rfl⟩
           go_wp2_with fail
           go_returns
           have hvv : validR ⟨sA, sc, cals, sB, sd, R, most⟩ L l = ((i : Int), 28) := by unfold validR; rw [HF.out, HG.out]
           refine ⟨?_, Lx⟩
           rw [HO.out.2.2.1, HO.out.2.2.2, hvv]
           try rfl
         · rw [hoe, if_neg hlt3, if_pos rfl] at hfb2
           have hd : decide (most < on) = false := by simpa using hlt3
           have HG := Lib.hid hfb2
           clear hfb2 hoe hlt3
           go_wp2_with fail
           refine region_later (by kernel_rfl) (by kernel_rfl) ?_
           repeat (go_big_quiet_step ((with_reducible refine Gives.later (OK _ Sx))))
           refine wpQuiet_nil ?_
           rintro _ ⟨z4, rfl⟩
           go_wp2_with fail
           go_roundg (l.length - (i + 1))
           case measure => omega
           case rel => exact ⟨i + 1, hlti, Nat.le_refl _, by go_num, Lx, HG.out⟩
       · have hil : i = l.length := by omega
         rw [hil, firstBad_end] at hfb2
         have HG := Lib.hid hfb2
         clear hfb2 hil
         go_wp2_with fail
         go_returns
         have hvv : validR ⟨sA, sc, cals, sB, sd, R, most⟩ L l = ((l.length : Int), 0) := by unfold validR; rw [HF.out, HG.out]
         refine ⟨?_, Lx⟩
         rw [HO.out.2.2.1, HO.out.2.2.2, hvv]
         try rfl
end Go.Proofs.YtpaojgfmffkodaaGreat
/- Layer 52 (the reference): Candidates. -/
namespace Go.Proofs.YtpaojgfmffkodaaGreat
set_option linter.unusedVariables false
set_option linter.unusedSimpArgs false
open Go.RowKit Go.Sort
attribute [local go_sem ↓] Go.wp_at_zero Go.wp_at_succ
end Go.Proofs.YtpaojgfmffkodaaGreat
/- Layer 52 (the reference): dispatch. -/
namespace Go.Proofs.YtpaojgfmffkodaaGreat
set_option linter.unusedVariables false
set_option linter.unusedSimpArgs false
open Go.RowKit Go.Sort
attribute [local go_sem ↓] Go.wp_at_zero Go.wp_at_succ
theorem cell_since {w w' : World} (h : SinceOf w w') {g i : Nat} {u : Value} [Nonempty (Old w g)] (hc : w.cell? ⟨g, i, none⟩ = some u) : w'.cell? ⟨g, i, none⟩ = some u := by
 obtain ⟨y, rfl⟩ := h
 rw [Since.cell]
 exact hc
theorem oldS_since {w w' : World} (h : SinceOf w w') {g : Nat} (ho : Nonempty (Old w g)) : Nonempty (Old w' g) := by
 obtain ⟨y, rfl⟩ := h
 infer_instance
end Go.Proofs.YtpaojgfmffkodaaGreat
/- Layer 52: Dispatch, the program's and the reference's. -/
namespace Go.Proofs.YtpaojgfmffkodaaGreat
set_option linter.unusedVariables false
set_option linter.unusedSimpArgs false
open Go.RowKit Go.Sort
attribute [local go_sem ↓] Go.wp_at_zero Go.wp_at_succ
def dispR (s : ShopR) (L : List JobR) (l : List SlotR) (j : Int) : SlotR × Bool × Int :=
 if (validT s L l).2 = 0 then (if askedE L l j = 0 then (slotOr (dispatchV s L l j), (dispatchV s L l j).isSome, 0) else (⟨0, 0, 0, 0⟩, false, askedE L l j)) else (⟨0, 0, 0, 0⟩, false, (validT s L l).2)
def dispTup (x : SlotR × Bool × Int) : Value := .tuple #[slotV x.1, .bool x.2.1, .int .i64 x.2.2]
theorem slotOpt_eq (o : Option SlotR) : slotOpt o = .tuple #[slotV (slotOr o), .bool o.isSome] := by cases o <;> rfl
set_option maxHeartbeats 2000000 in
theorem progDispatch_any (s : ShopR) (A : Option Addr) (c : Nat) (L : List JobR) (B : Option Addr) (d : Nat) (l : List SlotR) (j : Int) (w : World) (hs : IsShop w s) (h : IsJobs w A c L) (hl : IsSlots w B d l) (hll : l.length < 1073741824) (hcap : l.length ≤ d) :
 Yields Tryz.prog 54 #[shopV s, .slice A L.length c, .slice B l.length d, .int .i64 j] w (dispTup (dispR s L l j)) := by
 apply Yields.ret
 have VA := fun W hW => valid52_any s A c L B d l W (hs.of hW) (h.of hW) (hl.of hW) (by omega) hcap
 have AK := fun W hW => asked_any A c L B d l j W h.len (hl.of hW) (by omega)
 have DI := fun (hc : checkS s L = true) (hg : GoodS s L l) (jb : Nat) (hjb : jb < L.length) W hW => dispatch_any s A c L B d l jb W (hs.of hW) (h.of hW) (check_good hc) (any_orders hc) (check_machs hc) (hl.of hW) hll (good_named hg) hjb
 unfold dispR
 by_cases hv : (validT s L l).2 = 0
 · rw [if_pos hv]
   by_cases ha : askedE L l j = 0
   · rw [if_pos ha]
     obtain ⟨hc, hg⟩ := validT_zero.1 hv
     obtain ⟨hj0, hj1⟩ := asked_in ha
     obtain ⟨jb, rfl⟩ : ∃ q : Nat, j = q := ⟨j.toNat, by omega⟩
     have DJ := DI hc hg jb (by omega)
     rw [slotOpt_eq] at DJ
     generalize dispatchV s L l jb = o at *
     generalize slotOr o = x at *
     generalize o.isSome = b at *
     rw [hv] at VA
     rw [ha] at AK
     generalize (validT s L l).1 = v1 at *
     obtain ⟨x0, y0, x2, x3⟩ := x
     obtain ⟨sA, sc, cals, sB, sd, R, most⟩ := s
     clear hs h hl hc hg DI hv ha hj0 hj1
     go_enter Tryz.func54, Tryz.ntmps54
     go_wp2_with fail
     refine (VA _ Sx).calls.mono ?_
     rintro e _ ⟨rfl, z1, rfl⟩
     go_wp2_with fail
     refine (AK _ Sx).calls.mono ?_
     rintro e _ ⟨rfl, z2, rfl⟩
     go_wp2_with fail
     (with_reducible refine (DJ _ Sx).calls.mono ?_)
     rintro e _ ⟨rfl, z3, rfl⟩
     go_wp2_with fail
     go_returns
     exact ⟨rfl, Sx⟩
   · rw [if_neg ha]
     rw [hv] at VA
     have ha' : (askedE L l j != 0) = true := by simpa using ha
     generalize (validT s L l).1 = v1 at *
     generalize askedE L l j = ae at *
     obtain ⟨sA, sc, cals, sB, sd, R, most⟩ := s
     clear hs h hl DI hv ha
     go_enter Tryz.func54, Tryz.ntmps54
     go_wp2_with fail
     refine (VA _ Sx).calls.mono ?_
     rintro e _ ⟨rfl, z1, rfl⟩
     go_wp2_with fail
     refine (AK _ Sx).calls.mono ?_
     rintro e _ ⟨rfl, z2, rfl⟩
     go_wp2_with fail
     go_returns
     exact ⟨rfl, Sx⟩
 · rw [if_neg hv]
   have hv' : ((validT s L l).2 != 0) = true := by simpa using hv
   generalize validT s L l = vt at *
   obtain ⟨v1, v2⟩ := vt
   simp only at hv' VA
   obtain ⟨sA, sc, cals, sB, sd, R, most⟩ := s
   clear hs h hl DI hv AK
   go_enter Tryz.func54, Tryz.ntmps54
   go_wp2_with fail
   refine (VA _ Sx).calls.mono ?_
   rintro e _ ⟨rfl, z1, rfl⟩
   go_wp2_with fail
   go_returns
   exact ⟨rfl, Sx⟩
end Go.Proofs.YtpaojgfmffkodaaGreat
