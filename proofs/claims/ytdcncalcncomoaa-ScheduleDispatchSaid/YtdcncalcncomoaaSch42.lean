/- Layer 52 (the reference): fits. -/
import Derived.Test.YtdcncalcncomoaaSch41
namespace Go.Proofs.Ytdcncalcncomoaa
open Go.RowKit Go.Sort
set_option linter.unusedVariables false
attribute [local go_sem ↓] Go.wp_at_zero Go.wp_at_succ

set_option maxRecDepth 100000 in
set_option maxHeartbeats 16000000 in
theorem refFits_any (s : ShopR) (A : Option Addr) (c : Nat) (L : List JobR) (B : Option Addr) (d : Nat) (l : List SlotR) (x : SlotR) (w : World) (hs : IsShop w s) (h : IsJobs w A c L) (gp : GoodP s L) (hl : IsSlots w B d l) (hll : l.length < 4611686018427387904) (hn : NamedS s L l) :
    Gives Try.prog 34 #[shopV s, .slice A L.length c, .slice B l.length d, slotV x] w (.int .i64 (slotR s L l x)) := by
  apply Gives.ret
  have hcl := hs.cals.len
  have hrl := hs.rows.len
  have hjl := h.len
  have hni := nameB_iff (s := s) (L := L) (x := x)
  by_cases hnt : nameB s L x = true
  rotate_left 1
  · have hf : slotR s L l x = 6 := by unfold slotR; rw [if_pos (by simpa using hnt)]
    rw [hf]
    have hcase : (x.job < 0) ∨ (¬ x.job < 0 ∧ (L.length : Int) ≤ x.job) ∨ (¬ x.job < 0 ∧ ¬ (L.length : Int) ≤ x.job ∧ x.mach < 0) ∨ (¬ x.job < 0 ∧ ¬ (L.length : Int) ≤ x.job ∧ ¬ x.mach < 0 ∧ (s.cals.length : Int) ≤ x.mach) := by
      rw [hni] at hnt; omega
    obtain ⟨xj, xm, xs, xe⟩ := x
    obtain ⟨sA, sc, cals, sB, sd, R, most⟩ := s
    simp only at hcase hcl hrl
    clear hs h gp hl hn hnt hni hf
    rcases hcase with e0 | ⟨e0, e1⟩ | ⟨e0, e1, e2⟩ | ⟨e0, e1, e2, e3⟩
    all_goals
      go_enter Try.func34, Try.ntmps34
      go_wp2_with fail
      go_returns
      exact ⟨rfl, by (repeat (first | (with_reducible exact LaterOf.refl _) | (with_reducible refine LaterOf.alloc ?_ _) | (with_reducible refine LaterOf.drew ?_) | (with_reducible refine LaterOf.drewN ?_ _) | (with_reducible refine LaterOf.later ?_ _) | (with_reducible refine LaterOf.setCell ?_ (by first | exact Nat.le_refl _ | (simp; done) | omega | (simp; omega)) _)))⟩
  · obtain ⟨hxj, hxm⟩ := hni.1 hnt
    have hse : slotR s L l x = if l.any (fun y => y.job == x.job) = true then 7 else if (jobAt L x.job).ms.any (fun m => m == x.mach) = false then 25 else if x.start < (jobAt L x.job).rel then 22 else if shiftB s L x = false then 26 else if l.any (clashR s L x) = true then 27 else 0 := by
      unfold slotR; rw [if_neg (by rw [hnt]; simp)]
    rw [hse]
    clear hse hni
    have FO1 := fun (y : SlotR) (hy : 0 ≤ y.job ∧ y.job < L.length) W (hW : SinceOf w W) => refFollows_any s A c L x y W (hs.of hW) (h.of hW) gp hxm hxj hy
    have FO2 := fun (y : SlotR) (hy : 0 ≤ y.job ∧ y.job < L.length) (hm : y.mach = x.mach) W (hW : SinceOf w W) => refFollows_any s A c L y x W (hs.of hW) (h.of hW) gp (by rw [hm]; exact hxm) hy hxj
    have hcr : ∀ y : SlotR, clashR s L x y = ((y.mach == x.mach) && (!followsR s L x y && !followsR s L y x)) := fun _ => rfl
    obtain ⟨jn, hjn⟩ : ∃ m : Nat, x.job = m := ⟨x.job.toNat, by omega⟩
    obtain ⟨mn, hmn⟩ : ∃ m : Nat, x.mach = m := ⟨x.mach.toNat, by omega⟩
    have hj' : jn < L.length := by omega
    have hm' : mn < s.cals.length := by omega
    have ej : jobAt L x.job = L[jn] := by rw [hjn]; exact jobAt_at hj'
    have em : calAt s x.mach = s.cals[mn] := by rw [hmn]; exact calAt_at hm'
    have hsb : shiftB s L x = (openV s.cals[mn].P s.cals[mn].S s.cals[mn].D x.start && ((finishV s.cals[mn].P s.cals[mn].S s.cals[mn].D x.start L[jn].dur).2 == 0 && (finishV s.cals[mn].P s.cals[mn].S s.cals[mn].D x.start L[jn].dur).1 == x.stop)) := by
      unfold shiftB openAt finishAt; rw [ej, em]
    rw [ej, hsb]
    have hka := hs.cals.all _ (List.getElem_mem hm')
    have hja := h.all _ (List.getElem_mem hj')
    have FI := fun W hW => refFinish_any (w := W) x.start L[jn].dur (hka.of hW)
    have OP := fun W hW => refOpenAt_any (w := W) x.start (hka.of hW)
    simp only [pairV] at FI
    obtain ⟨gc, oc, hAc, hrc⟩ := hs.cals.row.at_ (by omega)
    obtain ⟨gj, oj, hAj, hrj⟩ := h.row.at_ (by omega)
    have hOc := hrc.there
    have hOj := hrj.there
    have c0 := hrc.k0 mn hm'
    have c1 := hrc.k1 mn hm'
    have c2 := hrc.k2 mn hm'
    have j0 := hrj.j0 jn hj'
    have j1 := hrj.j1 jn hj'
    have j2 := hrj.j2 jn hj'
    have j3 := hrj.j3 jn hj'
    have j4 := hrj.j4 jn hj'
    have j5 := hrj.j5 jn hj'
    have hjm := hja.1
    have hjml := hja.2
    generalize L[jn] = J at *
    generalize s.cals[mn] = K at *
    generalize finishV K.P K.S K.D x.start J.dur = fv at *
    generalize openV K.P K.S K.D x.start = ov at *
    obtain ⟨fe, fr⟩ := fv
    obtain ⟨q3, hq3⟩ : ∃ q, q = l.any (fun y => y.job == x.job) := ⟨_, rfl⟩
    obtain ⟨q4, hq4⟩ : ∃ q, q = J.ms.any (fun m => m == x.mach) := ⟨_, rfl⟩
    obtain ⟨q5, hq5⟩ : ∃ q, q = l.any (clashR s L x) := ⟨_, rfl⟩
    obtain ⟨v, hv⟩ : ∃ v : Int, v = (if l.any (fun y => y.job == x.job) = true then 7 else if J.ms.any (fun m => m == x.mach) = false then 25 else if x.start < J.rel then 22 else if (ov && (fr == 0 && fe == x.stop)) = false then 26 else if l.any (clashR s L x) = true then 27 else 0) := ⟨_, rfl⟩
    rw [← hv]
    rw [← hq3, ← hq4, ← hq5] at hv
    have e0 : ¬ (jn : Int) < 0 := by omega
    have e1 : ¬ (L.length : Int) ≤ jn := by omega
    have e2 : ¬ (mn : Int) < 0 := by omega
    have e3 : ¬ (s.cals.length : Int) ≤ mn := by omega
    obtain ⟨xj, xm, xs, xe⟩ := x
    obtain ⟨jA, jc, ms, dur, cls, rel, due, ord⟩ := J
    simp only at *
    subst hjn hmn hAj
    have HN := Lib.hid (And.intro hl (And.intro hn (And.intro hjm (And.intro hq3 (And.intro hq4 (And.intro hq5 (And.intro hcr hv)))))))
    obtain ⟨sA, sc, cals, sB, sd, R, most⟩ := s
    simp only at *
    subst hAc
    clear hs h gp hl hn hnt hrc hrj hka hja hjm ej em hsb hv hq3 hq4 hq5 hcr hxj hxm
    go_enter Try.func34, Try.ntmps34
    go_wp2_with fail
    go_loopg [9] l.length (fun gas s9 wr => ∃ k : Nat, k ≤ l.length ∧ l.length - k ≤ gas ∧ s9 = .int .i64 k ∧ LaterOf ((w.alloc (.cells #[.slice (some ⟨gc, oc, none⟩) cals.length sc, .slice sB R.length sd, .int .i64 most] 25)).alloc (.cells #[.int .i64 jn, .int .i64 mn, .int .i64 xs, .int .i64 xe] 46)) wr ∧ q3 = (l.drop k).any (fun y => y.job == (jn : Int)))
    case atStart => exact ⟨0, by omega, by omega, rfl, by (repeat (first | (with_reducible exact LaterOf.refl _) | (with_reducible refine LaterOf.alloc ?_ _) | (with_reducible refine LaterOf.drew ?_) | (with_reducible refine LaterOf.drewN ?_ _) | (with_reducible refine LaterOf.later ?_ _) | (with_reducible refine LaterOf.setCell ?_ (by first | exact Nat.le_refl _ | (simp; done) | omega | (simp; omega)) _))), by rw [List.drop_zero]; exact HN.out.2.2.2.1⟩
    case round =>
      obtain ⟨k, hk, hgas, rfl, ⟨z, rfl⟩, hany⟩ := hrel
      by_cases hlt : k < l.length
      · rw [any_drop _ hlt] at hany
        have hrl' := HN.out.1.of (w' := z.wd) (by (repeat (first | (with_reducible exact SinceOf.refl _) | (with_reducible assumption) | (with_reducible refine SinceOf.alloc ?_ _) | (with_reducible refine SinceOf.drew ?_) | (with_reducible refine SinceOf.drewN ?_ _) | (with_reducible refine SinceOf.later ?_ _) | (with_reducible refine SinceOf.further ?_ _) | (with_reducible refine SinceOf.setCell ?_ (by first | exact Nat.le_refl _ | (simp; done) | omega | (simp; omega)) _))))
        obtain ⟨g, off, rfl, hr⟩ := hrl'.at_ (by omega)
        have hO := hr.there
        have s0 := hr.s0 k hlt
        generalize l[k].job = yj at *
        clear hr hrl' FO1 FO2 FI OP c0 c1 c2 j0 j1 j2 j3 j4 j5
        by_cases he : yj = (jn : Int)
        · have e : (yj == (jn : Int)) = true := by simpa using he
          rw [e, Bool.true_or] at hany
          have HA := Lib.hid hany
          clear hany he
          go_wp2_with fail
          refine region_later (by kernel_rfl) (by kernel_rfl) ?_
          repeat (go_big_quiet_step (fail))
          refine wpQuiet_nil ?_
          rintro _ ⟨z1, rfl⟩
          go_wp2_with fail
          go_returns
          exact ⟨by have := HN.out.2.2.2.2.2.2.2; rw [HA.out] at this; rw [this]; rfl, by (repeat (first | (with_reducible exact LaterOf.refl _) | (with_reducible refine LaterOf.alloc ?_ _) | (with_reducible refine LaterOf.drew ?_) | (with_reducible refine LaterOf.drewN ?_ _) | (with_reducible refine LaterOf.later ?_ _) | (with_reducible refine LaterOf.setCell ?_ (by first | exact Nat.le_refl _ | (simp; done) | omega | (simp; omega)) _)))⟩
        · have e : (yj == (jn : Int)) = false := by simpa using he
          rw [e, Bool.false_or] at hany
          have HA := Lib.hid hany
          clear hany he
          go_wp2_with fail
          refine region_later (by kernel_rfl) (by kernel_rfl) ?_
          repeat (go_big_quiet_step (fail))
          refine wpQuiet_nil ?_
          rintro _ ⟨z1, rfl⟩
          go_wp2_with fail
          go_roundg (l.length - (k + 1))
          case measure => omega
          case rel => exact ⟨k + 1, hlt, Nat.le_refl _, by go_num, by (repeat (first | (with_reducible exact LaterOf.refl _) | (with_reducible refine LaterOf.alloc ?_ _) | (with_reducible refine LaterOf.drew ?_) | (with_reducible refine LaterOf.drewN ?_ _) | (with_reducible refine LaterOf.later ?_ _) | (with_reducible refine LaterOf.setCell ?_ (by first | exact Nat.le_refl _ | (simp; done) | omega | (simp; omega)) _))), HA.out⟩
      · have hkl : k = l.length := by omega
        rw [hkl, List.drop_length] at hany
        have HA := Lib.hid hany
        clear hany hkl
        go_wp2_with fail
        go_loopg [11, 12] ms.length (fun gas s11 s12 wr => ∃ k : Nat, k ≤ ms.length ∧ ms.length - k ≤ gas ∧ s11 = .bool ((ms.take k).any (fun m => m == (mn : Int))) ∧ s12 = .int .i64 k ∧ LaterOf (z.wd.alloc (.cells #[.slice jA ms.length jc, .int .i64 dur, .int .i64 cls, .int .i64 rel, .int .i64 due, .int .i64 ord] 53)) wr)
        case atStart => exact ⟨0, by omega, by omega, rfl, rfl, by (repeat (first | (with_reducible exact LaterOf.refl _) | (with_reducible refine LaterOf.alloc ?_ _) | (with_reducible refine LaterOf.drew ?_) | (with_reducible refine LaterOf.drewN ?_ _) | (with_reducible refine LaterOf.later ?_ _) | (with_reducible refine LaterOf.setCell ?_ (by first | exact Nat.le_refl _ | (simp; done) | omega | (simp; omega)) _)))⟩
        case round =>
          obtain ⟨i, hi, hgas2, rfl, rfl, ⟨z2, rfl⟩⟩ := hrel
          by_cases hlti : i < ms.length
          · have hta : (ms.take (i + 1)).any (fun m => m == (mn : Int)) = ((ms.take i).any (fun m => m == (mn : Int)) || ms[i] == (mn : Int)) := by rw [List.take_succ_eq_append_getElem hlti, List.any_append]; simp
            have hrl' := HN.out.2.2.1.of (w' := z2.wd) (by (repeat (first | (with_reducible exact SinceOf.refl _) | (with_reducible assumption) | (with_reducible refine SinceOf.alloc ?_ _) | (with_reducible refine SinceOf.drew ?_) | (with_reducible refine SinceOf.drewN ?_ _) | (with_reducible refine SinceOf.later ?_ _) | (with_reducible refine SinceOf.further ?_ _) | (with_reducible refine SinceOf.setCell ?_ (by first | exact Nat.le_refl _ | (simp; done) | omega | (simp; omega)) _))))
            obtain ⟨g, off, rfl, hr⟩ := hrl'.at_ (by omega)
            have hO := hr.there
            have m0 := hr.n0 i hlti
            generalize ms[i] = mi at *
            generalize (ms.take i).any (fun m => m == (mn : Int)) = b at *
            have HT := Lib.hid hta
            clear hr hrl' FO1 FO2 FI OP c0 c1 c2 j0 j1 j2 j3 j4 j5 hta
            cases b
            · go_wp2_with fail
              refine region_later (by kernel_rfl) (by kernel_rfl) ?_
              repeat (go_big_quiet_step (fail))
              refine wpQuiet_nil ?_
              rintro _ ⟨z3, rfl⟩
              go_wp2_with fail
              go_roundg (ms.length - (i + 1))
              case measure => omega
              case rel => exact ⟨i + 1, hlti, Nat.le_refl _, by rw [HT.out]; rfl, by go_num, by (repeat (first | (with_reducible exact LaterOf.refl _) | (with_reducible refine LaterOf.alloc ?_ _) | (with_reducible refine LaterOf.drew ?_) | (with_reducible refine LaterOf.drewN ?_ _) | (with_reducible refine LaterOf.later ?_ _) | (with_reducible refine LaterOf.setCell ?_ (by first | exact Nat.le_refl _ | (simp; done) | omega | (simp; omega)) _)))⟩
            · go_wp2_with fail
              refine region_later (by kernel_rfl) (by kernel_rfl) ?_
              repeat (go_big_quiet_step (fail))
              refine wpQuiet_nil ?_
              rintro _ ⟨z3, rfl⟩
              go_wp2_with fail
              go_roundg (ms.length - (i + 1))
              case measure => omega
              case rel => exact ⟨i + 1, hlti, Nat.le_refl _, by rw [HT.out]; rfl, by go_num, by (repeat (first | (with_reducible exact LaterOf.refl _) | (with_reducible refine LaterOf.alloc ?_ _) | (with_reducible refine LaterOf.drew ?_) | (with_reducible refine LaterOf.drewN ?_ _) | (with_reducible refine LaterOf.later ?_ _) | (with_reducible refine LaterOf.setCell ?_ (by first | exact Nat.le_refl _ | (simp; done) | omega | (simp; omega)) _)))⟩
          · have hil : i = ms.length := by omega
            have hq4 := HN.out.2.2.2.2.1
            rw [hil, List.take_length, ← hq4]
            clear hq4 hil
            have hq3 : q3 = false := by rw [HA.out]; rfl
            subst hq3
            have HV := Lib.hid HN.out.2.2.2.2.2.2.2
            cases q4
            · go_wp2_with fail
              go_returns
              exact ⟨by rw [HV.out]; rfl, by (repeat (first | (with_reducible exact LaterOf.refl _) | (with_reducible refine LaterOf.alloc ?_ _) | (with_reducible refine LaterOf.drew ?_) | (with_reducible refine LaterOf.drewN ?_ _) | (with_reducible refine LaterOf.later ?_ _) | (with_reducible refine LaterOf.setCell ?_ (by first | exact Nat.le_refl _ | (simp; done) | omega | (simp; omega)) _)))⟩
            · by_cases hrel : xs < rel
              · have f1 : decide (xs < rel) = true := by simpa using hrel
                go_wp2_with fail
                go_returns
                exact ⟨by rw [HV.out]; simp [hrel], by (repeat (first | (with_reducible exact LaterOf.refl _) | (with_reducible refine LaterOf.alloc ?_ _) | (with_reducible refine LaterOf.drew ?_) | (with_reducible refine LaterOf.drewN ?_ _) | (with_reducible refine LaterOf.later ?_ _) | (with_reducible refine LaterOf.setCell ?_ (by first | exact Nat.le_refl _ | (simp; done) | omega | (simp; omega)) _)))⟩
              · have f1 : decide (xs < rel) = false := by simpa using hrel
                have HV0 := HV.out
                rw [if_neg (by simp), if_neg (by simp), if_neg hrel] at HV0
                have HV := Lib.hid HV0
                clear hrel HV0
                have hsh : (fr ≠ 0 ∧ (fr == 0) = false) ∨ (ov = false ∧ fr = 0) ∨ (ov = true ∧ fr = 0 ∧ (fe != xe) = true ∧ (fe == xe) = false) ∨ (ov = true ∧ fr = 0 ∧ fe = xe) := by
                  by_cases h0 : fr = 0
                  · cases ov
                    · exact .inr (.inl ⟨rfl, h0⟩)
                    · by_cases h1 : fe = xe
                      · exact .inr (.inr (.inr ⟨rfl, h0, h1⟩))
                      · exact .inr (.inr (.inl ⟨rfl, h0, by simpa using h1, by simpa using h1⟩))
                  · exact .inl ⟨h0, by simpa using h0⟩
                rcases hsh with ⟨t1, t2⟩ | ⟨rfl, rfl⟩ | ⟨rfl, rfl, t1, t2⟩ | ⟨rfl, rfl, rfl⟩
                · have t1 : (fr != 0) = true := by simpa using t1
                  go_wp2_with fail
                  refine region_later (by kernel_rfl) (by kernel_rfl) ?_
                  repeat (go_big_quiet_step ((with_reducible refine Gives.later (FI _ (by (repeat (first | (with_reducible exact SinceOf.refl _) | (with_reducible assumption) | (with_reducible refine SinceOf.alloc ?_ _) | (with_reducible refine SinceOf.drew ?_) | (with_reducible refine SinceOf.drewN ?_ _) | (with_reducible refine SinceOf.later ?_ _) | (with_reducible refine SinceOf.further ?_ _) | (with_reducible refine SinceOf.setCell ?_ (by first | exact Nat.le_refl _ | (simp; done) | omega | (simp; omega)) _))))))))
                  refine wpQuiet_nil ?_
                  rintro _ ⟨z3, rfl⟩
                  go_wp2_with fail
                  refine region_later (by kernel_rfl) (by kernel_rfl) ?_
                  repeat (go_big_quiet_step ((with_reducible refine Gives.later (OP _ (by (repeat (first | (with_reducible exact SinceOf.refl _) | (with_reducible assumption) | (with_reducible refine SinceOf.alloc ?_ _) | (with_reducible refine SinceOf.drew ?_) | (with_reducible refine SinceOf.drewN ?_ _) | (with_reducible refine SinceOf.later ?_ _) | (with_reducible refine SinceOf.further ?_ _) | (with_reducible refine SinceOf.setCell ?_ (by first | exact Nat.le_refl _ | (simp; done) | omega | (simp; omega)) _))))))))
                  refine wpQuiet_nil ?_
                  rintro _ ⟨z4, rfl⟩
                  go_wp2_with fail
                  go_returns
                  exact ⟨by rw [HV.out]; simp [t2], by (repeat (first | (with_reducible exact LaterOf.refl _) | (with_reducible refine LaterOf.alloc ?_ _) | (with_reducible refine LaterOf.drew ?_) | (with_reducible refine LaterOf.drewN ?_ _) | (with_reducible refine LaterOf.later ?_ _) | (with_reducible refine LaterOf.setCell ?_ (by first | exact Nat.le_refl _ | (simp; done) | omega | (simp; omega)) _)))⟩
                · go_wp2_with fail
                  refine region_later (by kernel_rfl) (by kernel_rfl) ?_
                  repeat (go_big_quiet_step ((with_reducible refine Gives.later (FI _ (by (repeat (first | (with_reducible exact SinceOf.refl _) | (with_reducible assumption) | (with_reducible refine SinceOf.alloc ?_ _) | (with_reducible refine SinceOf.drew ?_) | (with_reducible refine SinceOf.drewN ?_ _) | (with_reducible refine SinceOf.later ?_ _) | (with_reducible refine SinceOf.further ?_ _) | (with_reducible refine SinceOf.setCell ?_ (by first | exact Nat.le_refl _ | (simp; done) | omega | (simp; omega)) _))))))))
                  refine wpQuiet_nil ?_
                  rintro _ ⟨z3, rfl⟩
                  go_wp2_with fail
                  refine region_later (by kernel_rfl) (by kernel_rfl) ?_
                  repeat (go_big_quiet_step ((with_reducible refine Gives.later (OP _ (by (repeat (first | (with_reducible exact SinceOf.refl _) | (with_reducible assumption) | (with_reducible refine SinceOf.alloc ?_ _) | (with_reducible refine SinceOf.drew ?_) | (with_reducible refine SinceOf.drewN ?_ _) | (with_reducible refine SinceOf.later ?_ _) | (with_reducible refine SinceOf.further ?_ _) | (with_reducible refine SinceOf.setCell ?_ (by first | exact Nat.le_refl _ | (simp; done) | omega | (simp; omega)) _))))))))
                  refine wpQuiet_nil ?_
                  rintro _ ⟨z4, rfl⟩
                  go_wp2_with fail
                  go_returns
                  exact ⟨by rw [HV.out]; simp, by (repeat (first | (with_reducible exact LaterOf.refl _) | (with_reducible refine LaterOf.alloc ?_ _) | (with_reducible refine LaterOf.drew ?_) | (with_reducible refine LaterOf.drewN ?_ _) | (with_reducible refine LaterOf.later ?_ _) | (with_reducible refine LaterOf.setCell ?_ (by first | exact Nat.le_refl _ | (simp; done) | omega | (simp; omega)) _)))⟩
                · go_wp2_with fail
                  refine region_later (by kernel_rfl) (by kernel_rfl) ?_
                  repeat (go_big_quiet_step ((with_reducible refine Gives.later (FI _ (by (repeat (first | (with_reducible exact SinceOf.refl _) | (with_reducible assumption) | (with_reducible refine SinceOf.alloc ?_ _) | (with_reducible refine SinceOf.drew ?_) | (with_reducible refine SinceOf.drewN ?_ _) | (with_reducible refine SinceOf.later ?_ _) | (with_reducible refine SinceOf.further ?_ _) | (with_reducible refine SinceOf.setCell ?_ (by first | exact Nat.le_refl _ | (simp; done) | omega | (simp; omega)) _))))))))
                  refine wpQuiet_nil ?_
                  rintro _ ⟨z3, rfl⟩
                  go_wp2_with fail
                  refine region_later (by kernel_rfl) (by kernel_rfl) ?_
                  repeat (go_big_quiet_step ((with_reducible refine Gives.later (OP _ (by (repeat (first | (with_reducible exact SinceOf.refl _) | (with_reducible assumption) | (with_reducible refine SinceOf.alloc ?_ _) | (with_reducible refine SinceOf.drew ?_) | (with_reducible refine SinceOf.drewN ?_ _) | (with_reducible refine SinceOf.later ?_ _) | (with_reducible refine SinceOf.further ?_ _) | (with_reducible refine SinceOf.setCell ?_ (by first | exact Nat.le_refl _ | (simp; done) | omega | (simp; omega)) _))))))))
                  refine wpQuiet_nil ?_
                  rintro _ ⟨z4, rfl⟩
                  go_wp2_with fail
                  go_returns
                  exact ⟨by rw [HV.out]; simp [t2], by (repeat (first | (with_reducible exact LaterOf.refl _) | (with_reducible refine LaterOf.alloc ?_ _) | (with_reducible refine LaterOf.drew ?_) | (with_reducible refine LaterOf.drewN ?_ _) | (with_reducible refine LaterOf.later ?_ _) | (with_reducible refine LaterOf.setCell ?_ (by first | exact Nat.le_refl _ | (simp; done) | omega | (simp; omega)) _)))⟩
                · simp only [beq_self_eq_true, Bool.and_self] at HV
                  go_wp2_with fail
                  refine region_later (by kernel_rfl) (by kernel_rfl) ?_
                  repeat (go_big_quiet_step ((with_reducible refine Gives.later (FI _ (by (repeat (first | (with_reducible exact SinceOf.refl _) | (with_reducible assumption) | (with_reducible refine SinceOf.alloc ?_ _) | (with_reducible refine SinceOf.drew ?_) | (with_reducible refine SinceOf.drewN ?_ _) | (with_reducible refine SinceOf.later ?_ _) | (with_reducible refine SinceOf.further ?_ _) | (with_reducible refine SinceOf.setCell ?_ (by first | exact Nat.le_refl _ | (simp; done) | omega | (simp; omega)) _))))))))
                  refine wpQuiet_nil ?_
                  rintro _ ⟨z3, rfl⟩
                  go_wp2_with fail
                  refine region_later (by kernel_rfl) (by kernel_rfl) ?_
                  repeat (go_big_quiet_step ((with_reducible refine Gives.later (OP _ (by (repeat (first | (with_reducible exact SinceOf.refl _) | (with_reducible assumption) | (with_reducible refine SinceOf.alloc ?_ _) | (with_reducible refine SinceOf.drew ?_) | (with_reducible refine SinceOf.drewN ?_ _) | (with_reducible refine SinceOf.later ?_ _) | (with_reducible refine SinceOf.further ?_ _) | (with_reducible refine SinceOf.setCell ?_ (by first | exact Nat.le_refl _ | (simp; done) | omega | (simp; omega)) _))))))))
                  refine wpQuiet_nil ?_
                  rintro _ ⟨z4, rfl⟩
                  go_wp2_with fail
                  clear FI OP c0 c1 c2 j0 j1 j2 j3 j4 j5
                  go_loopg [15] l.length (fun gas s15 wr => ∃ k : Nat, k ≤ l.length ∧ l.length - k ≤ gas ∧ s15 = .int .i64 k ∧ LaterOf z4.wd wr ∧ q5 = (l.drop k).any (clashR ⟨some ⟨gc, oc, none⟩, sc, cals, sB, sd, R, most⟩ L ⟨jn, mn, xs, fe⟩))
                  case atStart => exact ⟨0, by omega, by omega, rfl, by (repeat (first | (with_reducible exact LaterOf.refl _) | (with_reducible refine LaterOf.alloc ?_ _) | (with_reducible refine LaterOf.drew ?_) | (with_reducible refine LaterOf.drewN ?_ _) | (with_reducible refine LaterOf.later ?_ _) | (with_reducible refine LaterOf.setCell ?_ (by first | exact Nat.le_refl _ | (simp; done) | omega | (simp; omega)) _))), by rw [List.drop_zero]; exact HN.out.2.2.2.2.2.1⟩
                  case round =>
                    obtain ⟨n, hn, hgas3, rfl, ⟨z5, rfl⟩, hq⟩ := hrel
                    by_cases hltn : n < l.length
                    · rw [any_drop _ hltn, HN.out.2.2.2.2.2.2.1] at hq
                      have hrl' := HN.out.1.of (w' := z5.wd) (by (repeat (first | (with_reducible exact SinceOf.refl _) | (with_reducible assumption) | (with_reducible refine SinceOf.alloc ?_ _) | (with_reducible refine SinceOf.drew ?_) | (with_reducible refine SinceOf.drewN ?_ _) | (with_reducible refine SinceOf.later ?_ _) | (with_reducible refine SinceOf.further ?_ _) | (with_reducible refine SinceOf.setCell ?_ (by first | exact Nat.le_refl _ | (simp; done) | omega | (simp; omega)) _))))
                      obtain ⟨g, off, rfl, hr⟩ := hrl'.at_ (by omega)
                      have hO := hr.there
                      have s0 := hr.s0 n hltn
                      have s1 := hr.s1 n hltn
                      have s2 := hr.s2 n hltn
                      have s3 := hr.s3 n hltn
                      have hyj := (nameB_iff.1 (HN.out.2.1 _ (List.getElem_mem hltn))).1
                      have F1 := FO1 _ hyj
                      have F2 := FO2 _ hyj
                      generalize followsR ⟨some ⟨gc, oc, none⟩, sc, cals, sB, sd, R, most⟩ L ⟨jn, mn, xs, fe⟩ l[n] = b1 at *
                      generalize followsR ⟨some ⟨gc, oc, none⟩, sc, cals, sB, sd, R, most⟩ L l[n] ⟨jn, mn, xs, fe⟩ = b2 at *
                      generalize l[n] = y at *
                      obtain ⟨yj, ym, ys, ye⟩ := y
                      simp only at *
                      clear hr hrl' hyj
                      by_cases hm : ym = (mn : Int)
                      · have F3 := F2 hm
                        clear F2
                        subst hm
                        rw [show ((mn : Int) == (mn : Int)) = true from by simp, Bool.true_and] at hq
                        cases b1
                        · cases b2
                          · simp only [Bool.not_false, Bool.and_self, Bool.true_or] at hq
                            have HQ := Lib.hid hq
                            clear hq
                            go_wp2_with fail
                            refine (F1 _ (by (repeat (first | (with_reducible exact SinceOf.refl _) | (with_reducible assumption) | (with_reducible refine SinceOf.alloc ?_ _) | (with_reducible refine SinceOf.drew ?_) | (with_reducible refine SinceOf.drewN ?_ _) | (with_reducible refine SinceOf.later ?_ _) | (with_reducible refine SinceOf.further ?_ _) | (with_reducible refine SinceOf.setCell ?_ (by first | exact Nat.le_refl _ | (simp; done) | omega | (simp; omega)) _))))).calls.mono ?_
                            rintro e _ ⟨rfl, x1, rfl⟩
                            go_wp2_with fail
                            refine (F3 _ (by (repeat (first | (with_reducible exact SinceOf.refl _) | (with_reducible assumption) | (with_reducible refine SinceOf.alloc ?_ _) | (with_reducible refine SinceOf.drew ?_) | (with_reducible refine SinceOf.drewN ?_ _) | (with_reducible refine SinceOf.later ?_ _) | (with_reducible refine SinceOf.further ?_ _) | (with_reducible refine SinceOf.setCell ?_ (by first | exact Nat.le_refl _ | (simp; done) | omega | (simp; omega)) _))))).calls.mono ?_
                            rintro e _ ⟨rfl, x2, rfl⟩
                            go_wp2_with fail
                            go_returns
                            exact ⟨by rw [HV.out, HQ.out]; rfl, by (repeat (first | (with_reducible exact LaterOf.refl _) | (with_reducible refine LaterOf.alloc ?_ _) | (with_reducible refine LaterOf.drew ?_) | (with_reducible refine LaterOf.drewN ?_ _) | (with_reducible refine LaterOf.later ?_ _) | (with_reducible refine LaterOf.setCell ?_ (by first | exact Nat.le_refl _ | (simp; done) | omega | (simp; omega)) _)))⟩
                          · simp only [Bool.not_false, Bool.not_true, Bool.and_false, Bool.false_or] at hq
                            have HQ := Lib.hid hq
                            clear hq
                            go_wp2_with fail
                            refine (F1 _ (by (repeat (first | (with_reducible exact SinceOf.refl _) | (with_reducible assumption) | (with_reducible refine SinceOf.alloc ?_ _) | (with_reducible refine SinceOf.drew ?_) | (with_reducible refine SinceOf.drewN ?_ _) | (with_reducible refine SinceOf.later ?_ _) | (with_reducible refine SinceOf.further ?_ _) | (with_reducible refine SinceOf.setCell ?_ (by first | exact Nat.le_refl _ | (simp; done) | omega | (simp; omega)) _))))).calls.mono ?_
                            rintro e _ ⟨rfl, x1, rfl⟩
                            go_wp2_with fail
                            refine (F3 _ (by (repeat (first | (with_reducible exact SinceOf.refl _) | (with_reducible assumption) | (with_reducible refine SinceOf.alloc ?_ _) | (with_reducible refine SinceOf.drew ?_) | (with_reducible refine SinceOf.drewN ?_ _) | (with_reducible refine SinceOf.later ?_ _) | (with_reducible refine SinceOf.further ?_ _) | (with_reducible refine SinceOf.setCell ?_ (by first | exact Nat.le_refl _ | (simp; done) | omega | (simp; omega)) _))))).calls.mono ?_
                            rintro e _ ⟨rfl, x2, rfl⟩
                            go_wp2_with fail
                            go_roundg (l.length - (n + 1))
                            case measure => omega
                            case rel => exact ⟨n + 1, hltn, Nat.le_refl _, by go_num, by (repeat (first | (with_reducible exact LaterOf.refl _) | (with_reducible refine LaterOf.alloc ?_ _) | (with_reducible refine LaterOf.drew ?_) | (with_reducible refine LaterOf.drewN ?_ _) | (with_reducible refine LaterOf.later ?_ _) | (with_reducible refine LaterOf.setCell ?_ (by first | exact Nat.le_refl _ | (simp; done) | omega | (simp; omega)) _))), HQ.out⟩
                        · simp only [Bool.not_true, Bool.false_and, Bool.false_or] at hq
                          have HQ := Lib.hid hq
                          clear hq
                          go_wp2_with fail
                          refine (F1 _ (by (repeat (first | (with_reducible exact SinceOf.refl _) | (with_reducible assumption) | (with_reducible refine SinceOf.alloc ?_ _) | (with_reducible refine SinceOf.drew ?_) | (with_reducible refine SinceOf.drewN ?_ _) | (with_reducible refine SinceOf.later ?_ _) | (with_reducible refine SinceOf.further ?_ _) | (with_reducible refine SinceOf.setCell ?_ (by first | exact Nat.le_refl _ | (simp; done) | omega | (simp; omega)) _))))).calls.mono ?_
                          rintro e _ ⟨rfl, x1, rfl⟩
                          go_wp2_with fail
                          go_roundg (l.length - (n + 1))
                          case measure => omega
                          case rel => exact ⟨n + 1, hltn, Nat.le_refl _, by go_num, by (repeat (first | (with_reducible exact LaterOf.refl _) | (with_reducible refine LaterOf.alloc ?_ _) | (with_reducible refine LaterOf.drew ?_) | (with_reducible refine LaterOf.drewN ?_ _) | (with_reducible refine LaterOf.later ?_ _) | (with_reducible refine LaterOf.setCell ?_ (by first | exact Nat.le_refl _ | (simp; done) | omega | (simp; omega)) _))), HQ.out⟩
                      · have e : (ym == (mn : Int)) = false := by simpa using hm
                        rw [e, Bool.false_and, Bool.false_or] at hq
                        have HQ := Lib.hid hq
                        clear hq hm F1 F2 FO1 FO2
                        go_wp2_with fail
                        go_roundg (l.length - (n + 1))
                        case measure => omega
                        case rel => exact ⟨n + 1, hltn, Nat.le_refl _, by go_num, by (repeat (first | (with_reducible exact LaterOf.refl _) | (with_reducible refine LaterOf.alloc ?_ _) | (with_reducible refine LaterOf.drew ?_) | (with_reducible refine LaterOf.drewN ?_ _) | (with_reducible refine LaterOf.later ?_ _) | (with_reducible refine LaterOf.setCell ?_ (by first | exact Nat.le_refl _ | (simp; done) | omega | (simp; omega)) _))), HQ.out⟩
                    · have hnl : n = l.length := by omega
                      rw [hnl, List.drop_length] at hq
                      have HQ := Lib.hid hq
                      clear hq hnl
                      go_wp2_with fail
                      go_returns
                      exact ⟨by rw [HV.out, HQ.out]; rfl, by (repeat (first | (with_reducible exact LaterOf.refl _) | (with_reducible refine LaterOf.alloc ?_ _) | (with_reducible refine LaterOf.drew ?_) | (with_reducible refine LaterOf.drewN ?_ _) | (with_reducible refine LaterOf.later ?_ _) | (with_reducible refine LaterOf.setCell ?_ (by first | exact Nat.le_refl _ | (simp; done) | omega | (simp; omega)) _)))⟩
end Go.Proofs.Ytdcncalcncomoaa
