/- Layer 52: slot. -/
import Derived.Test.YtdcncalcncomoaaSch7
import Derived.Deep.RegionHeld3
namespace Go.Proofs.Ytdcncalcncomoaa
open Go.RowKit Go.Sort
set_option linter.unusedVariables false
attribute [local go_sem ↓] Go.wp_at_zero Go.wp_at_succ

structure JobAt (w : World) (g : Nat) (j : JobR) : Prop where
  c0 : w.cell? ⟨g, 0, none⟩ = some (.slice j.A j.ms.length j.c)
  c1 : w.cell? ⟨g, 1, none⟩ = some (.int .i64 j.dur)
  c2 : w.cell? ⟨g, 2, none⟩ = some (.int .i64 j.cls)
  c3 : w.cell? ⟨g, 3, none⟩ = some (.int .i64 j.rel)
  c4 : w.cell? ⟨g, 4, none⟩ = some (.int .i64 j.due)
  c5 : w.cell? ⟨g, 5, none⟩ = some (.int .i64 j.ord)
  there : Nonempty (Old w g)
structure CalOn (w : World) (g : Nat) (k : CalR) : Prop where
  c0 : w.cell? ⟨g, 0, none⟩ = some (.int .i64 k.P)
  c1 : w.cell? ⟨g, 1, none⟩ = some (.slice k.A k.S.length k.c)
  c2 : w.cell? ⟨g, 2, none⟩ = some (.slice k.B k.D.length k.d)
  there : Nonempty (Old w g)
def nameB (s : ShopR) (L : List JobR) (x : SlotR) : Bool := (decide (0 ≤ x.job) && decide (x.job ≤ (L.length : Int) - 1)) && (decide (0 ≤ x.mach) && decide (x.mach ≤ (s.cals.length : Int) - 1))
def finishAt (s : ShopR) (m t k : Int) : Int × Int := finishV (calAt s m).P (calAt s m).S (calAt s m).D t k
def openAt (s : ShopR) (m t : Int) : Bool := openV (calAt s m).P (calAt s m).S (calAt s m).D t
def shiftB (s : ShopR) (L : List JobR) (x : SlotR) : Bool := openAt s x.mach x.start && ((finishAt s x.mach x.start (jobAt L x.job).dur).2 == 0 && (finishAt s x.mach x.start (jobAt L x.job).dur).1 == x.stop)
/-- The error of a slot behind others. -/
def slotE (s : ShopR) (L : List JobR) (ahead : List SlotR) (x : SlotR) : Int :=
  if nameB s L x = false then 6 else if ahead.any (fun y => y.job == x.job) = true then 7 else if (jobAt L x.job).ms.any (fun m => x.mach == m) = false then 25 else if x.start < (jobAt L x.job).rel then 22 else
  if shiftB s L x = false then 26 else if ahead.any (clashB s L x) = true then 27 else 0
/-- All slots name jobs and machines of the problem. -/
def NamedS (s : ShopR) (L : List JobR) (l : List SlotR) : Prop := ∀ y ∈ l, nameB s L y = true
theorem nameB_iff {s : ShopR} {L : List JobR} {x : SlotR} : nameB s L x = true ↔ (0 ≤ x.job ∧ x.job < L.length) ∧ (0 ≤ x.mach ∧ x.mach < s.cals.length) := by
  unfold nameB; simp; omega
set_option maxRecDepth 100000 in
set_option maxHeartbeats 8000000 in
theorem slot_any (s : ShopR) (A : Option Addr) (c : Nat) (L : List JobR) (B : Option Addr) (d : Nat) (l : List SlotR) (x : SlotR) (w : World) (hs : IsShop w s) (h : IsJobs w A c L) (gp : GoodP s L) (hl : IsSlots w B d l) (hll : l.length < 4611686018427387904) (hn : NamedS s L l) :
    Gives Try.prog 64 #[shopV s, .slice A L.length c, .slice B l.length d, slotV x] w (.int .i64 (slotE s L l x)) := by
  apply Gives.ret
  have hcl := hs.cals.len
  have hrl := hs.rows.len
  have hjl := h.len
  have I1 := fun W => in_any x.job 0 ((L.length : Int) - 1) W
  have I2 := fun W => in_any x.mach 0 ((s.cals.length : Int) - 1) W
  have hnb : nameB s L x = ((decide (0 ≤ x.job) && decide (x.job ≤ (L.length : Int) - 1)) && (decide (0 ≤ x.mach) && decide (x.mach ≤ (s.cals.length : Int) - 1))) := rfl
  have hni := nameB_iff (s := s) (L := L) (x := x)
  generalize (decide (0 ≤ x.job) && decide (x.job ≤ (L.length : Int) - 1)) = q1 at *
  generalize (decide (0 ≤ x.mach) && decide (x.mach ≤ (s.cals.length : Int) - 1)) = q2 at *
  have hcase : (q1 = false ∨ (q1 = true ∧ q2 = false)) ∨ (q1 = true ∧ q2 = true) := by cases q1 <;> cases q2 <;> simp
  rcases hcase with hcase | ⟨rfl, rfl⟩
  · have hf : slotE s L l x = 6 := by
      unfold slotE
      rw [if_pos]
      rw [hnb]; rcases hcase with rfl | ⟨rfl, rfl⟩ <;> rfl
    rw [hf]
    clear hs h gp hl hn hnb hni hf
    rcases hcase with rfl | ⟨rfl, rfl⟩
    · go_enter Try.func64, Try.ntmps64
      go_wp2_with fail
      refine (I1 _).mono ?_
      rintro e w' ⟨rfl, rfl⟩
      go_wp2_with fail
      go_returns
      exact ⟨rfl, by (repeat (first | (with_reducible exact LaterOf.refl _) | (with_reducible refine LaterOf.alloc ?_ _) | (with_reducible refine LaterOf.drew ?_) | (with_reducible refine LaterOf.drewN ?_ _) | (with_reducible refine LaterOf.later ?_ _) | (with_reducible refine LaterOf.setCell ?_ (by first | exact Nat.le_refl _ | (simp; done) | omega | (simp; omega)) _)))⟩
    · go_enter Try.func64, Try.ntmps64
      go_wp2_with fail
      refine (I1 _).mono ?_
      rintro e w' ⟨rfl, rfl⟩
      go_wp2_with fail
      refine (I2 _).mono ?_
      rintro e w' ⟨rfl, rfl⟩
      go_wp2_with fail
      go_returns
      exact ⟨rfl, by (repeat (first | (with_reducible exact LaterOf.refl _) | (with_reducible refine LaterOf.alloc ?_ _) | (with_reducible refine LaterOf.drew ?_) | (with_reducible refine LaterOf.drewN ?_ _) | (with_reducible refine LaterOf.later ?_ _) | (with_reducible refine LaterOf.setCell ?_ (by first | exact Nat.le_refl _ | (simp; done) | omega | (simp; omega)) _)))⟩
  · have hnt : nameB s L x = true := hnb
    obtain ⟨hxj, hxm⟩ := hni.1 hnt
    have hse : slotE s L l x = if l.any (fun y => y.job == x.job) = true then 7 else if (jobAt L x.job).ms.any (fun m => x.mach == m) = false then 25 else if x.start < (jobAt L x.job).rel then 22 else if shiftB s L x = false then 26 else if l.any (clashB s L x) = true then 27 else 0 := by
      unfold slotE; rw [if_neg (by rw [hnt]; simp)]
    rw [hse]
    clear hse hnb hni
    have SM := fun b W (hW : SinceOf w W) (hb : SlotAt W b x) => containsSame_any (.pointer (some ⟨b, 0, none⟩)) (fun y => y.job == x.job) B d l W (hl.of hW) hll (fun W' hW' y _ => sameFn_any x y b W' (hb.of hW'))
    have CL := fun b1 b2 b3 W (hW : SinceOf w W) (hb1 : SlotAt W b1 x) (hb2 : ShopAt W b2 s) (hb3 : W.cell? ⟨b3, 0, none⟩ = some (.slice A L.length c)) (hO3 : Nonempty (Old W b3)) =>
      containsClash_any (.pointer (some ⟨b1, 0, none⟩)) (.pointer (some ⟨b2, 0, none⟩)) (.pointer (some ⟨b3, 0, none⟩)) (clashB s L x) B d l W (hl.of hW) hll (fun W' hW' y hy => by
        obtain ⟨z, rfl⟩ := hW'
        have hy' := (nameB_iff.1 (hn y hy)).1
        exact clashFn_any s A c L x y b1 b2 b3 z.wd ((hs.of hW).of ⟨z, rfl⟩) ((h.of hW).of ⟨z, rfl⟩) gp hxj hxm hy' (hb1.of ⟨z, rfl⟩) (hb2.of ⟨z, rfl⟩) (by rw [Since.cell]; exact hb3) inferInstance)
    obtain ⟨jn, hjn⟩ : ∃ m : Nat, x.job = m := ⟨x.job.toNat, by omega⟩
    obtain ⟨mn, hmn⟩ : ∃ m : Nat, x.mach = m := ⟨x.mach.toNat, by omega⟩
    have hj' : jn < L.length := by omega
    have hm' : mn < s.cals.length := by omega
    have ej : jobAt L x.job = L[jn] := by rw [hjn]; exact jobAt_at hj'
    have em : calAt s x.mach = s.cals[mn] := by rw [hmn]; exact calAt_at hm'
    have hsb : shiftB s L x = (openV s.cals[mn].P s.cals[mn].S s.cals[mn].D x.start && ((finishV s.cals[mn].P s.cals[mn].S s.cals[mn].D x.start L[jn].dur).2 == 0 && (finishV s.cals[mn].P s.cals[mn].S s.cals[mn].D x.start L[jn].dur).1 == x.stop)) := by
      unfold shiftB openAt finishAt; rw [ej, em]
    rw [ej, hsb]
    have hka := hs.cals.all _ (List.getElem_mem hm')
    have hja := h.all _ (List.getElem_mem hj')
    have FI := fun W hW => finish_any (w := W) x.start L[jn].dur (hka.of hW)
    have OP := fun W hW => open_any (w := W) x.start (hka.of hW)
    have CI := fun W (hW : SinceOf w W) => containsInt_any L[jn].A L[jn].c L[jn].ms x.mach W (hja.1.of hW) hja.2
    simp only [pairV] at FI
    obtain ⟨gc, oc, hAc, hrc⟩ := hs.cals.row.at_ (by omega)
    obtain ⟨gj, oj, hAj, hrj⟩ := h.row.at_ (by omega)
    have hOc := hrc.there
    have hOj := hrj.there
    have c0 := hrc.k0 mn hm'
    have c1 := hrc.k1 mn hm'
    have c2 := hrc.k2 mn hm'
    have j0 := hrj.j0 jn hj'
    have j1 := hrj.j1 jn hj'
    have j2 := hrj.j2 jn hj'
    have j3 := hrj.j3 jn hj'
    have j4 := hrj.j4 jn hj'
    have j5 := hrj.j5 jn hj'
    have HH := Lib.hid (And.intro hrc hrj)
    generalize L[jn] = J at *
    generalize s.cals[mn] = K at *
    generalize finishV K.P K.S K.D x.start J.dur = fv at *
    generalize openV K.P K.S K.D x.start = ov at *
    generalize l.any (fun y => y.job == x.job) = q3 at *
    generalize J.ms.any (fun m => x.mach == m) = q4 at *
    generalize l.any (clashB s L x) = q5 at *
    obtain ⟨fe, fr⟩ := fv
    obtain ⟨xj, xm, xs, xe⟩ := x
    simp only at *
    subst hjn hmn hAj
    obtain ⟨sA, sc, cals, sB, sd, R, most⟩ := s
    simp only at *
    subst hAc
    obtain ⟨v, hv⟩ : ∃ v : Int, v = (if q3 = true then 7 else if q4 = false then 25 else if xs < J.rel then 22 else if (ov && (fr == 0 && fe == xe)) = false then 26 else if q5 = true then 27 else 0) := ⟨_, rfl⟩
    rw [← hv]
    have HV := Lib.hid hv
    clear hs h gp hl hn hnt hrc hrj hka hja ej em hsb HH hv
    go_enter Try.func64, Try.ntmps64
    go_wp2_with fail
    refine (I1 _).mono ?_
    rintro e w' ⟨rfl, rfl⟩
    go_wp2_with fail
    refine (I2 _).mono ?_
    rintro e w' ⟨rfl, rfl⟩
    go_upto_region 3 with fail
    go_cut [9, 10] (fun s9 s10 wx => ∃ g9 g10 : Nat, s9 = .pointer (some ⟨g9, 0, none⟩) ∧ s10 = .pointer (some ⟨g10, 0, none⟩) ∧ JobAt wx g9 J ∧ CalOn wx g10 K ∧ LaterOf (((w.alloc (.cells #[.slice (some ⟨gc, oc, none⟩) cals.length sc, .slice sB R.length sd, .int .i64 most] 40)).alloc (.cells #[.slice (some ⟨gj, oj, none⟩) L.length c] 42)).alloc (.cells #[.int .i64 jn, .int .i64 mn, .int .i64 xs, .int .i64 xe] 34)) wx)
    case first =>
      go_region_held3 (fun w' => w'.cell? ⟨w.heap.size, 0, none⟩ = some (.slice (some ⟨gc, oc, none⟩) cals.length sc) ∧ w'.cell? ⟨w.heap.size + 1, 0, none⟩ = some (.slice (some ⟨gj, oj, none⟩) L.length c) ∧ w'.cell? ⟨w.heap.size + 1 + 1, 0, none⟩ = some (.int .i64 jn) ∧ w'.cell? ⟨w.heap.size + 1 + 1, 1, none⟩ = some (.int .i64 mn) ∧
          w'.cell? ⟨gj, oj + jn * 6, none⟩ = some (.slice J.A J.ms.length J.c) ∧ w'.cell? ⟨gj, oj + jn * 6 + 1, none⟩ = some (.int .i64 J.dur) ∧ w'.cell? ⟨gj, oj + jn * 6 + 2, none⟩ = some (.int .i64 J.cls) ∧ w'.cell? ⟨gj, oj + jn * 6 + 3, none⟩ = some (.int .i64 J.rel) ∧ w'.cell? ⟨gj, oj + jn * 6 + 4, none⟩ = some (.int .i64 J.due) ∧ w'.cell? ⟨gj, oj + jn * 6 + 5, none⟩ = some (.int .i64 J.ord) ∧
          w'.cell? ⟨gc, oc + mn * 3, none⟩ = some (.int .i64 K.P) ∧ w'.cell? ⟨gc, oc + mn * 3 + 1, none⟩ = some (.slice K.A K.S.length K.c) ∧ w'.cell? ⟨gc, oc + mn * 3 + 2, none⟩ = some (.slice K.B K.D.length K.d)) ((simp [go_sem, *])) (fail)
      all_goals
        go_wp2_with fail
        go_meet
        exact ⟨_, _, rfl, rfl, ⟨by simp [go_sem], by simp [go_sem], by simp [go_sem], by simp [go_sem], by simp [go_sem], by simp [go_sem], inferInstance⟩, ⟨by simp [go_sem], by simp [go_sem], by simp [go_sem], inferInstance⟩, by (repeat (first | (with_reducible exact LaterOf.refl _) | (with_reducible refine LaterOf.alloc ?_ _) | (with_reducible refine LaterOf.drew ?_) | (with_reducible refine LaterOf.drewN ?_ _) | (with_reducible refine LaterOf.later ?_ _) | (with_reducible refine LaterOf.setCell ?_ (by first | exact Nat.le_refl _ | (simp; done) | omega | (simp; omega)) _)))⟩
    case rest =>
      obtain ⟨g9, g10, rfl, rfl, ⟨a0, a1, a2, a3, a4, a5, hO9⟩, ⟨d0, d1, d2, hO10⟩, ⟨y, rfl⟩⟩ := hcut
      clear c0 c1 c2 j0 j1 j2 j3 j4 j5
      go_wp2_with fail
      refine (FI _ (by (repeat (first | (with_reducible exact SinceOf.refl _) | (with_reducible assumption) | (with_reducible refine SinceOf.alloc ?_ _) | (with_reducible refine SinceOf.drew ?_) | (with_reducible refine SinceOf.drewN ?_ _) | (with_reducible refine SinceOf.later ?_ _) | (with_reducible refine SinceOf.further ?_ _) | (with_reducible refine SinceOf.setCell ?_ (by first | exact Nat.le_refl _ | (simp; done) | omega | (simp; omega)) _))))).calls.mono ?_
      rintro e _ ⟨rfl, x1, rfl⟩
      go_wp2_with fail
      refine (SM _ _ (by (repeat (first | (with_reducible exact SinceOf.refl _) | (with_reducible assumption) | (with_reducible refine SinceOf.alloc ?_ _) | (with_reducible refine SinceOf.drew ?_) | (with_reducible refine SinceOf.drewN ?_ _) | (with_reducible refine SinceOf.later ?_ _) | (with_reducible refine SinceOf.further ?_ _) | (with_reducible refine SinceOf.setCell ?_ (by first | exact Nat.le_refl _ | (simp; done) | omega | (simp; omega)) _)))) ⟨by simp [go_sem], by simp [go_sem], by simp [go_sem], by simp [go_sem], inferInstance⟩).calls.mono ?_
      rintro e _ ⟨rfl, x2, rfl⟩
      clear SM FI
      cases q3
      · go_wp2_with fail
        refine (CI _ (by (repeat (first | (with_reducible exact SinceOf.refl _) | (with_reducible assumption) | (with_reducible refine SinceOf.alloc ?_ _) | (with_reducible refine SinceOf.drew ?_) | (with_reducible refine SinceOf.drewN ?_ _) | (with_reducible refine SinceOf.later ?_ _) | (with_reducible refine SinceOf.further ?_ _) | (with_reducible refine SinceOf.setCell ?_ (by first | exact Nat.le_refl _ | (simp; done) | omega | (simp; omega)) _))))).calls.mono ?_
        rintro e _ ⟨rfl, x3, rfl⟩
        clear CI
        cases q4
        · go_wp2_with fail
          go_returns
          exact ⟨by rw [HV.out]; simp, by (repeat (first | (with_reducible exact LaterOf.refl _) | (with_reducible refine LaterOf.alloc ?_ _) | (with_reducible refine LaterOf.drew ?_) | (with_reducible refine LaterOf.drewN ?_ _) | (with_reducible refine LaterOf.later ?_ _) | (with_reducible refine LaterOf.setCell ?_ (by first | exact Nat.le_refl _ | (simp; done) | omega | (simp; omega)) _)))⟩
        · by_cases hrel : xs < J.rel
          · have f1 : decide (xs < J.rel) = true := by simpa using hrel
            go_wp2_with fail
            go_returns
            exact ⟨by rw [HV.out]; simp [show xs < J.rel from by simpa using f1], by (repeat (first | (with_reducible exact LaterOf.refl _) | (with_reducible refine LaterOf.alloc ?_ _) | (with_reducible refine LaterOf.drew ?_) | (with_reducible refine LaterOf.drewN ?_ _) | (with_reducible refine LaterOf.later ?_ _) | (with_reducible refine LaterOf.setCell ?_ (by first | exact Nat.le_refl _ | (simp; done) | omega | (simp; omega)) _)))⟩
          · have f1 : decide (xs < J.rel) = false := by simpa using hrel
            have HR := Lib.hid hrel
            clear hrel
            have hsh : (ov = false) ∨ (ov = true ∧ (fr != 0) = true ∧ (fr == 0) = false) ∨ (ov = true ∧ fr = 0 ∧ (fe != xe) = true ∧ (fe == xe) = false) ∨ (ov = true ∧ fr = 0 ∧ fe = xe) := by
              cases ov
              · exact .inl rfl
              · by_cases h0 : fr = 0
                · by_cases h1 : fe = xe
                  · exact .inr (.inr (.inr ⟨rfl, h0, h1⟩))
                  · exact .inr (.inr (.inl ⟨rfl, h0, by simpa using h1, by simpa using h1⟩))
                · exact .inr (.inl ⟨rfl, by simpa using h0, by simpa using h0⟩)
            go_wp2_with fail
            refine (OP _ (by (repeat (first | (with_reducible exact SinceOf.refl _) | (with_reducible assumption) | (with_reducible refine SinceOf.alloc ?_ _) | (with_reducible refine SinceOf.drew ?_) | (with_reducible refine SinceOf.drewN ?_ _) | (with_reducible refine SinceOf.later ?_ _) | (with_reducible refine SinceOf.further ?_ _) | (with_reducible refine SinceOf.setCell ?_ (by first | exact Nat.le_refl _ | (simp; done) | omega | (simp; omega)) _))))).calls.mono ?_
            rintro e _ ⟨rfl, x4, rfl⟩
            clear OP
            rcases hsh with rfl | ⟨rfl, t1, t2⟩ | ⟨rfl, rfl, t1, t2⟩ | ⟨rfl, rfl, rfl⟩
            · go_wp2_with fail
              go_returns
              exact ⟨by rw [HV.out]; simp [show ¬ xs < J.rel from by have := HR.out; omega], by (repeat (first | (with_reducible exact LaterOf.refl _) | (with_reducible refine LaterOf.alloc ?_ _) | (with_reducible refine LaterOf.drew ?_) | (with_reducible refine LaterOf.drewN ?_ _) | (with_reducible refine LaterOf.later ?_ _) | (with_reducible refine LaterOf.setCell ?_ (by first | exact Nat.le_refl _ | (simp; done) | omega | (simp; omega)) _)))⟩
            · go_wp2_with fail
              go_returns
              exact ⟨by rw [HV.out]; simp [show ¬ xs < J.rel from by have := HR.out; omega, t2], by (repeat (first | (with_reducible exact LaterOf.refl _) | (with_reducible refine LaterOf.alloc ?_ _) | (with_reducible refine LaterOf.drew ?_) | (with_reducible refine LaterOf.drewN ?_ _) | (with_reducible refine LaterOf.later ?_ _) | (with_reducible refine LaterOf.setCell ?_ (by first | exact Nat.le_refl _ | (simp; done) | omega | (simp; omega)) _)))⟩
            · go_wp2_with fail
              go_returns
              exact ⟨by rw [HV.out]; simp [show ¬ xs < J.rel from by have := HR.out; omega, t2], by (repeat (first | (with_reducible exact LaterOf.refl _) | (with_reducible refine LaterOf.alloc ?_ _) | (with_reducible refine LaterOf.drew ?_) | (with_reducible refine LaterOf.drewN ?_ _) | (with_reducible refine LaterOf.later ?_ _) | (with_reducible refine LaterOf.setCell ?_ (by first | exact Nat.le_refl _ | (simp; done) | omega | (simp; omega)) _)))⟩
            · go_wp2_with fail
              refine (CL _ _ _ _ (by (repeat (first | (with_reducible exact SinceOf.refl _) | (with_reducible assumption) | (with_reducible refine SinceOf.alloc ?_ _) | (with_reducible refine SinceOf.drew ?_) | (with_reducible refine SinceOf.drewN ?_ _) | (with_reducible refine SinceOf.later ?_ _) | (with_reducible refine SinceOf.further ?_ _) | (with_reducible refine SinceOf.setCell ?_ (by first | exact Nat.le_refl _ | (simp; done) | omega | (simp; omega)) _)))) ⟨by simp [go_sem], by simp [go_sem], by simp [go_sem], by simp [go_sem], inferInstance⟩ ⟨by simp [go_sem], by simp [go_sem], by simp [go_sem], inferInstance⟩ (by simp [go_sem]) inferInstance).calls.mono ?_
              rintro e _ ⟨rfl, x5, rfl⟩
              clear CL
              cases q5
              · go_wp2_with fail
                go_returns
                exact ⟨by rw [HV.out]; simp [show ¬ xs < J.rel from by have := HR.out; omega], by (repeat (first | (with_reducible exact LaterOf.refl _) | (with_reducible refine LaterOf.alloc ?_ _) | (with_reducible refine LaterOf.drew ?_) | (with_reducible refine LaterOf.drewN ?_ _) | (with_reducible refine LaterOf.later ?_ _) | (with_reducible refine LaterOf.setCell ?_ (by first | exact Nat.le_refl _ | (simp; done) | omega | (simp; omega)) _)))⟩
              · go_wp2_with fail
                go_returns
                exact ⟨by rw [HV.out]; simp [show ¬ xs < J.rel from by have := HR.out; omega], by (repeat (first | (with_reducible exact LaterOf.refl _) | (with_reducible refine LaterOf.alloc ?_ _) | (with_reducible refine LaterOf.drew ?_) | (with_reducible refine LaterOf.drewN ?_ _) | (with_reducible refine LaterOf.later ?_ _) | (with_reducible refine LaterOf.setCell ?_ (by first | exact Nat.le_refl _ | (simp; done) | omega | (simp; omega)) _)))⟩
      · go_wp2_with fail
        go_returns
        exact ⟨by rw [HV.out]; simp, by (repeat (first | (with_reducible exact LaterOf.refl _) | (with_reducible refine LaterOf.alloc ?_ _) | (with_reducible refine LaterOf.drew ?_) | (with_reducible refine LaterOf.drewN ?_ _) | (with_reducible refine LaterOf.later ?_ _) | (with_reducible refine LaterOf.setCell ?_ (by first | exact Nat.le_refl _ | (simp; done) | omega | (simp; omega)) _)))⟩
end Go.Proofs.Ytdcncalcncomoaa
