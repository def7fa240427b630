/- Layer 7, the reference: Valid, On, Side, common, Meet. -/
import Derived.Test.YtkpnffokjpgalaaGreatKMink7
namespace Go.Proofs.YtkpnffokjpgalaaGreat
set_option linter.unusedVariables false
set_option linter.unusedSimpArgs false
open Go.RowKit Go.Sort
attribute [local go_sem ↓] Go.wp_at_zero Go.wp_at_succ

abbrev sg (a b c d : Int) : Value := .agg #[.int .i64 a, .int .i64 b, .int .i64 c, .int .i64 d]
abbrev SegP := Pt × Pt
abbrev sgv (s : SegP) : Value := sg s.1.1 s.1.2 s.2.1 s.2.2
def segOk (s : SegP) : Bool := withinB s.1.1 s.1.2 4000 && withinB s.2.1 s.2.2 4000
def inSeg (s : SegP) (p : Pt) : Bool := decide (imin s.1.1 s.2.1 ≤ p.1) && decide (p.1 ≤ imax s.1.1 s.2.1) && decide (imin s.1.2 s.2.2 ≤ p.2) && decide (p.2 ≤ imax s.1.2 s.2.2)
def onB (s : SegP) (p : Pt) : Bool := segOk s && inSeg s p && decide (turnI s.1.1 s.1.2 s.2.1 s.2.2 p.1 p.2 = 0)
def sideI (s : SegP) (p : Pt) : Int := if segOk s && withinB p.1 p.2 4000 then turnI s.1.1 s.1.2 s.2.1 s.2.2 p.1 p.2 else 0
def endsL (s t : SegP) : List Pt := [s.1, s.2, t.1, t.2]
def bothB (s t : SegP) (p : Pt) : Bool := onB s p && onB t p
def comL (s t : SegP) : List Pt := (endsL s t).filter (bothB s t)
def crossB (s t : SegP) : Bool := decide (sideI s t.1 * sideI s t.2 < 0) && decide (sideI t s.1 * sideI t s.2 < 0)
def meetI (s t : SegP) : Int := if segOk s && segOk t then (if 1 < (sortedV (comL s t)).length then 3 else if (sortedV (comL s t)).length = 1 then 1 else if crossB s t then 2 else 0) else 0
set_option maxRecDepth 100000 in
theorem refSegValid_any (s : SegP) (w : World) : Gives Tryz.prog 45 #[sgv s] w (.bool (segOk s)) := by
  apply Gives.ret
  have W1 := refWithin_any s.1.1 s.1.2 4000
  have W2 := refWithin_any s.2.1 s.2.2 4000
  unfold segOk
  cases h1 : withinB s.1.1 s.1.2 4000
  · rw [h1] at W1
    clear W2 h1
    go_enter Tryz.func45, Tryz.ntmps45
    go_wp2_with fail
    refine (W1 _).calls.mono ?_
    rintro e _ ⟨rfl, x1, rfl⟩
    go_wp2_with fail
    go_returns
    exact ⟨rfl, by (repeat (first | (with_reducible exact LaterOf.refl _) | (with_reducible refine LaterOf.alloc ?_ _) | (with_reducible refine LaterOf.drew ?_) | (with_reducible refine LaterOf.drewN ?_ _) | (with_reducible refine LaterOf.later ?_ _) | (with_reducible refine LaterOf.setCell ?_ (by first | exact Nat.le_refl _ | (simp; done) | omega | (simp; omega)) _)))⟩
  · rw [h1] at W1
    clear h1
    generalize withinB s.2.1 s.2.2 4000 = b at *
    go_enter Tryz.func45, Tryz.ntmps45
    go_wp2_with fail
    refine (W1 _).calls.mono ?_
    rintro e _ ⟨rfl, x1, rfl⟩
    go_wp2_with fail
    refine (W2 _).calls.mono ?_
    rintro e _ ⟨rfl, x2, rfl⟩
    go_wp2_with fail
    go_returns
    exact ⟨by first | rfl | simp, by (repeat (first | (with_reducible exact LaterOf.refl _) | (with_reducible refine LaterOf.alloc ?_ _) | (with_reducible refine LaterOf.drew ?_) | (with_reducible refine LaterOf.drewN ?_ _) | (with_reducible refine LaterOf.later ?_ _) | (with_reducible refine LaterOf.setCell ?_ (by first | exact Nat.le_refl _ | (simp; done) | omega | (simp; omega)) _)))⟩
set_option maxRecDepth 100000 in
set_option maxHeartbeats 8000000 in
theorem refOn_any (s : SegP) (px py : Int) (w : World) : Gives Tryz.prog 23 #[sgv s, vv px py] w (.bool (onB s (px, py))) := by
  apply Gives.ret
  have V := refSegValid_any s
  have T := refTurn_any s.1.1 s.1.2 s.2.1 s.2.2 px py
  obtain ⟨⟨ax, ay⟩, bx, by'⟩ := s
  unfold onB inSeg
  simp only at *
  generalize segOk ((ax, ay), (bx, by')) = v at *
  generalize turnI ax ay bx by' px py = t at *
  have key : (¬ imin ax bx ≤ px) ∨ (imin ax bx ≤ px ∧ ¬ px ≤ imax ax bx) ∨ (imin ax bx ≤ px ∧ px ≤ imax ax bx ∧ ¬ imin ay by' ≤ py) ∨ (imin ax bx ≤ px ∧ px ≤ imax ax bx ∧ imin ay by' ≤ py ∧ ¬ py ≤ imax ay by') ∨ (imin ax bx ≤ px ∧ px ≤ imax ax bx ∧ imin ay by' ≤ py ∧ py ≤ imax ay by') := by omega
  cases v
  · clear key T
    go_enter Tryz.func23, Tryz.ntmps23
    go_wp2_with fail
    refine (V _).calls.mono ?_
    rintro e _ ⟨rfl, x1, rfl⟩
    go_wp2_with fail
    go_returns
    exact ⟨rfl, by (repeat (first | (with_reducible exact LaterOf.refl _) | (with_reducible refine LaterOf.alloc ?_ _) | (with_reducible refine LaterOf.drew ?_) | (with_reducible refine LaterOf.drewN ?_ _) | (with_reducible refine LaterOf.later ?_ _) | (with_reducible refine LaterOf.setCell ?_ (by first | exact Nat.le_refl _ | (simp; done) | omega | (simp; omega)) _)))⟩
  rcases key with h1 | ⟨h1, h2⟩ | ⟨h1, h2, h3⟩ | ⟨h1, h2, h3, h4⟩ | ⟨h1, h2, h3, h4⟩
  · go_enter Tryz.func23, Tryz.ntmps23
    go_wp2_with fail
    refine (V _).calls.mono ?_
    rintro e _ ⟨rfl, x1, rfl⟩
    go_wp2_with fail
    go_returns
    exact ⟨by first | rfl | (simp; omega), by (repeat (first | (with_reducible exact LaterOf.refl _) | (with_reducible refine LaterOf.alloc ?_ _) | (with_reducible refine LaterOf.drew ?_) | (with_reducible refine LaterOf.drewN ?_ _) | (with_reducible refine LaterOf.later ?_ _) | (with_reducible refine LaterOf.setCell ?_ (by first | exact Nat.le_refl _ | (simp; done) | omega | (simp; omega)) _)))⟩
  · go_enter Tryz.func23, Tryz.ntmps23
    go_wp2_with fail
    refine (V _).calls.mono ?_
    rintro e _ ⟨rfl, x1, rfl⟩
    go_wp2_with fail
    go_returns
    exact ⟨by first | rfl | (simp; omega), by (repeat (first | (with_reducible exact LaterOf.refl _) | (with_reducible refine LaterOf.alloc ?_ _) | (with_reducible refine LaterOf.drew ?_) | (with_reducible refine LaterOf.drewN ?_ _) | (with_reducible refine LaterOf.later ?_ _) | (with_reducible refine LaterOf.setCell ?_ (by first | exact Nat.le_refl _ | (simp; done) | omega | (simp; omega)) _)))⟩
  · go_enter Tryz.func23, Tryz.ntmps23
    go_wp2_with fail
    refine (V _).calls.mono ?_
    rintro e _ ⟨rfl, x1, rfl⟩
    go_wp2_with fail
    go_returns
    exact ⟨by first | rfl | (simp; omega), by (repeat (first | (with_reducible exact LaterOf.refl _) | (with_reducible refine LaterOf.alloc ?_ _) | (with_reducible refine LaterOf.drew ?_) | (with_reducible refine LaterOf.drewN ?_ _) | (with_reducible refine LaterOf.later ?_ _) | (with_reducible refine LaterOf.setCell ?_ (by first | exact Nat.le_refl _ | (simp; done) | omega | (simp; omega)) _)))⟩
  · go_enter Tryz.func23, Tryz.ntmps23
    go_wp2_with fail
    refine (V _).calls.mono ?_
    rintro e _ ⟨rfl, x1, rfl⟩
    go_wp2_with fail
    go_returns
    exact ⟨by first | rfl | (simp; omega), by (repeat (first | (with_reducible exact LaterOf.refl _) | (with_reducible refine LaterOf.alloc ?_ _) | (with_reducible refine LaterOf.drew ?_) | (with_reducible refine LaterOf.drewN ?_ _) | (with_reducible refine LaterOf.later ?_ _) | (with_reducible refine LaterOf.setCell ?_ (by first | exact Nat.le_refl _ | (simp; done) | omega | (simp; omega)) _)))⟩
  · go_enter Tryz.func23, Tryz.ntmps23
    go_wp2_with fail
    refine (V _).calls.mono ?_
    rintro e _ ⟨rfl, x1, rfl⟩
    go_wp2_with fail
    refine (T _).calls.mono ?_
    rintro e _ ⟨rfl, x2, rfl⟩
    go_wp2_with fail
    go_returns
    exact ⟨by (simp [h1, h2, h3, h4]; exact Bool.eq_iff_iff.2 (by simp)), by (repeat (first | (with_reducible exact LaterOf.refl _) | (with_reducible refine LaterOf.alloc ?_ _) | (with_reducible refine LaterOf.drew ?_) | (with_reducible refine LaterOf.drewN ?_ _) | (with_reducible refine LaterOf.later ?_ _) | (with_reducible refine LaterOf.setCell ?_ (by first | exact Nat.le_refl _ | (simp; done) | omega | (simp; omega)) _)))⟩
set_option maxRecDepth 100000 in
set_option maxHeartbeats 8000000 in
theorem refSide_any (s : SegP) (px py : Int) (w : World) : Gives Tryz.prog 61 #[sgv s, vv px py] w (.int .i64 (sideI s (px, py))) := by
  apply Gives.ret
  have V := refSegValid_any s
  have T := refTurn_any s.1.1 s.1.2 s.2.1 s.2.2 px py
  have W1 := refWithin_any px py 4000
  obtain ⟨⟨ax, ay⟩, bx, by'⟩ := s
  unfold sideI
  simp only at *
  generalize segOk ((ax, ay), (bx, by')) = v at *
  generalize turnI ax ay bx by' px py = t at *
  generalize withinB px py 4000 = b at *
  cases v
  · clear T W1
    go_enter Tryz.func61, Tryz.ntmps61
    go_wp2_with fail
    refine (V _).calls.mono ?_
    rintro e _ ⟨rfl, x1, rfl⟩
    go_wp2_with fail
    go_returns
    exact ⟨rfl, by (repeat (first | (with_reducible exact LaterOf.refl _) | (with_reducible refine LaterOf.alloc ?_ _) | (with_reducible refine LaterOf.drew ?_) | (with_reducible refine LaterOf.drewN ?_ _) | (with_reducible refine LaterOf.later ?_ _) | (with_reducible refine LaterOf.setCell ?_ (by first | exact Nat.le_refl _ | (simp; done) | omega | (simp; omega)) _)))⟩
  cases b
  · clear T
    go_enter Tryz.func61, Tryz.ntmps61
    go_wp2_with fail
    refine (V _).calls.mono ?_
    rintro e _ ⟨rfl, x1, rfl⟩
    go_wp2_with fail
    refine (W1 _).calls.mono ?_
    rintro e _ ⟨rfl, x2, rfl⟩
    go_wp2_with fail
    go_returns
    exact ⟨rfl, by (repeat (first | (with_reducible exact LaterOf.refl _) | (with_reducible refine LaterOf.alloc ?_ _) | (with_reducible refine LaterOf.drew ?_) | (with_reducible refine LaterOf.drewN ?_ _) | (with_reducible refine LaterOf.later ?_ _) | (with_reducible refine LaterOf.setCell ?_ (by first | exact Nat.le_refl _ | (simp; done) | omega | (simp; omega)) _)))⟩
  · go_enter Tryz.func61, Tryz.ntmps61
    go_wp2_with fail
    refine (V _).calls.mono ?_
    rintro e _ ⟨rfl, x1, rfl⟩
    go_wp2_with fail
    refine (W1 _).calls.mono ?_
    rintro e _ ⟨rfl, x2, rfl⟩
    go_wp2_with fail
    refine (T _).calls.mono ?_
    rintro e _ ⟨rfl, x3, rfl⟩
    go_wp2_with fail
    go_returns
    exact ⟨rfl, by (repeat (first | (with_reducible exact LaterOf.refl _) | (with_reducible refine LaterOf.alloc ?_ _) | (with_reducible refine LaterOf.drew ?_) | (with_reducible refine LaterOf.drewN ?_ _) | (with_reducible refine LaterOf.later ?_ _) | (with_reducible refine LaterOf.setCell ?_ (by first | exact Nat.le_refl _ | (simp; done) | omega | (simp; omega)) _)))⟩
theorem filter_take {α : Type} (f : α → Bool) {l : List α} {i : Nat} (h : i < l.length) : (l.take (i + 1)).filter f = (l.take i).filter f ++ (if f l[i] then [l[i]] else []) := by
  rw [List.take_succ_eq_append_getElem h, List.filter_append]
  cases q : f l[i] <;> simp [q]
set_option maxRecDepth 100000 in
set_option maxHeartbeats 8000000 in
theorem refCommon_any (s t : SegP) (w : World) :
    Calls Tryz.prog 60 #[sgv s, sgv t] w fun e w' => ∃ A' c', e = .returned (.slice A' (sortedV (comL s t)).length c') ∧ OwnVecs w.heap.size w' A' c' (sortedV (comL s t)) ∧ SinceOf w w' := by
  obtain ⟨i0, hi, hz0, hz1, hz2⟩ := info_parts infoVec
  have HI := Lib.hid (And.intro hi (And.intro hz0 (And.intro hz1 hz2)))
  have OS := fun px py => refOn_any s px py
  have OT := fun px py => refOn_any t px py
  have hcl : (comL s t).length ≤ 4 := List.length_filter_le _ _
  have hE : endsL s t = [s.1, s.2, t.1, t.2] := rfl
  have hC : comL s t = (endsL s t).filter (bothB s t) := rfl
  have hB : ∀ p, bothB s t p = (onB s p && onB t p) := fun p => rfl
  have hEl : (endsL s t).length = 4 := rfl
  obtain ⟨⟨ax, ay⟩, bx, by'⟩ := s
  obtain ⟨⟨cx, cy⟩, dx, dy⟩ := t
  simp only at *
  generalize onB ((ax, ay), (bx, by')) = fs at *
  generalize onB ((cx, cy), (dx, dy)) = ft at *
  generalize bothB ((ax, ay), (bx, by')) ((cx, cy), (dx, dy)) = fb at *
  generalize endsL ((ax, ay), (bx, by')) ((cx, cy), (dx, dy)) = E at *
  generalize comL ((ax, ay), (bx, by')) ((cx, cy), (dx, dy)) = C at *
  have HC := Lib.hid (And.intro hE (And.intro hC (And.intro hB hEl)))
  clear hi hz0 hz1 hz2 hE hC hB hEl
  go_enter Tryz.func60, Tryz.ntmps60
  go_wp2_with fail
  have hrow : IsVecs (((w.alloc (.cells #[.int .i64 ax, .int .i64 ay, .int .i64 bx, .int .i64 by'] 27)).alloc (.cells #[.int .i64 cx, .int .i64 cy, .int .i64 dx, .int .i64 dy] 27)).alloc (.cells #[.int .i64 ax, .int .i64 ay, .int .i64 bx, .int .i64 by', .int .i64 cx, .int .i64 cy, .int .i64 dx, .int .i64 dy] 25)) (some ⟨w.heap.size + 1 + 1, 0, none⟩) 4 E := by
    rw [HC.out.1]
    have h : OwnVecs 0 (((w.alloc (.cells #[.int .i64 ax, .int .i64 ay, .int .i64 bx, .int .i64 by'] 27)).alloc (.cells #[.int .i64 cx, .int .i64 cy, .int .i64 dx, .int .i64 dy] 27)).alloc (.cells #[.int .i64 ax, .int .i64 ay, .int .i64 bx, .int .i64 by', .int .i64 cx, .int .i64 cy, .int .i64 dx, .int .i64 dy] 25)) _ 4 [(ax, ay), (bx, by'), (cx, cy), (dx, dy)] := World.ownsRow_lit ((w.alloc (.cells #[.int .i64 ax, .int .i64 ay, .int .i64 bx, .int .i64 by'] 27)).alloc (.cells #[.int .i64 cx, .int .i64 cy, .int .i64 dx, .int .i64 dy] 27)) _ 4 (Nat.zero_le _) (by decide) rfl
    have h2 := h.isRow encV_len
    simpa using h2
  have HRow := Lib.hid hrow
  clear hrow
  go_loopg [6, 7] 4 (fun gas s6 s7 wr => ∃ (i : Nat) (A2 : Option Addr) (c2 n2 : Nat), i ≤ 4 ∧ 4 - i ≤ gas ∧ n2 ≤ 4 ∧ n2 = ((E.take i).filter fb).length ∧ s6 = .slice A2 n2 c2 ∧ s7 = .int .i64 i ∧ OwnVecs (w.heap.size + 1 + 1 + 1) wr A2 c2 ((E.take i).filter fb) ∧ SinceOf (((w.alloc (.cells #[.int .i64 ax, .int .i64 ay, .int .i64 bx, .int .i64 by'] 27)).alloc (.cells #[.int .i64 cx, .int .i64 cy, .int .i64 dx, .int .i64 dy] 27)).alloc (.cells #[.int .i64 ax, .int .i64 ay, .int .i64 bx, .int .i64 by', .int .i64 cx, .int .i64 cy, .int .i64 dx, .int .i64 dy] 25)) wr)
  case atStart => exact ⟨0, none, 0, 0, by omega, by omega, by omega, by simp, rfl, rfl, Owns.nil _ _ _ _ _, by (repeat (first | (with_reducible exact SinceOf.refl _) | (with_reducible assumption) | (with_reducible refine SinceOf.alloc ?_ _) | (with_reducible refine SinceOf.drew ?_) | (with_reducible refine SinceOf.drewN ?_ _) | (with_reducible refine SinceOf.later ?_ _) | (with_reducible refine SinceOf.further ?_ _) | (with_reducible refine SinceOf.setCell ?_ (by first | exact Nat.le_refl _ | (simp; done) | omega | (simp; omega)) _)))⟩
  case round =>
    obtain ⟨i, A2, c2, n2, hi, hgas, hn2, hn2e, rfl, rfl, ho, ⟨z, rfl⟩⟩ := hrel
    have hzs := z.size
    simp only [World.size_alloc] at hzs
    have zo1 : Nonempty (Old z.wd w.heap.size) := ⟨⟨by omega⟩⟩
    have zo2 : Nonempty (Old z.wd (w.heap.size + 1)) := ⟨⟨by omega⟩⟩
    have zo3 : Nonempty (Old z.wd (w.heap.size + 1 + 1)) := ⟨⟨by omega⟩⟩
    by_cases hlt : i < 4
    · have hEl := HC.out.2.2.2
      have hr0 := HRow.out.of (w' := z.wd) ⟨z, rfl⟩
      obtain ⟨g, off, hA, hr⟩ := hr0.at_ (by omega)
      simp only [Option.some.injEq, Addr.mk.injEq] at hA
      obtain ⟨rfl, rfl, -⟩ := hA
      have a0 := hr.v0 i (by omega)
      have a1 := hr.v1 i (by omega)
      have hf := filter_take fb (show i < E.length by omega)
      have hb := HC.out.2.2.1 (E[i]'(by omega))
      generalize E[i]'(by omega) = p at *
      obtain ⟨px, py⟩ := p
      simp only at a0 a1
      have O1 := OS px py
      have O2 := OT px py
      have q0 : z.wd.cell? ⟨w.heap.size, 0, none⟩ = some (.int .i64 ax) := by simp [go_sem]
      have q1 : z.wd.cell? ⟨w.heap.size, 1, none⟩ = some (.int .i64 ay) := by simp [go_sem]
      have q2 : z.wd.cell? ⟨w.heap.size, 2, none⟩ = some (.int .i64 bx) := by simp [go_sem]
      have q3 : z.wd.cell? ⟨w.heap.size, 3, none⟩ = some (.int .i64 by') := by simp [go_sem]
      have r0 : z.wd.cell? ⟨w.heap.size + 1, 0, none⟩ = some (.int .i64 cx) := by simp [go_sem]
      have r1 : z.wd.cell? ⟨w.heap.size + 1, 1, none⟩ = some (.int .i64 cy) := by simp [go_sem]
      have r2 : z.wd.cell? ⟨w.heap.size + 1, 2, none⟩ = some (.int .i64 dx) := by simp [go_sem]
      have r3 : z.wd.cell? ⟨w.heap.size + 1, 3, none⟩ = some (.int .i64 dy) := by simp [go_sem]
      generalize fs (px, py) = b1 at *
      generalize ft (px, py) = b2 at *
      have HQ := Lib.hid (And.intro ho (And.intro hf (And.intro hb hn2e)))
      clear hEl hr0 hr hf hb ho hn2e OS OT
      simp only [Nat.zero_add] at a0 a1
      cases b1
      · clear O2
        have hnx : (E.take (i + 1)).filter fb = (E.take i).filter fb := by rw [HQ.out.2.1, HQ.out.2.2.1]; simp
        have HN := Lib.hid hnx
        clear hnx
        go_wp2_with fail
        refine region_later (by kernel_rfl) (by kernel_rfl) ?_
        repeat (go_big_quiet_step (((with_reducible refine Gives.later (O1 _)))))
        refine wpQuiet_nil ?_
        rintro _ ⟨z4, rfl⟩
        go_wp2_with fail
        go_roundg (4 - (i + 1))
        case measure => omega
        case rel => exact ⟨i + 1, A2, c2, n2, hlt, Nat.le_refl _, hn2, by rw [HN.out]; exact HQ.out.2.2.2, rfl, by go_num, by rw [HN.out]; exact HQ.out.1.of (by (repeat (first | (with_reducible exact SinceOf.refl _) | (with_reducible assumption) | (with_reducible refine SinceOf.alloc ?_ _) | (with_reducible refine SinceOf.drew ?_) | (with_reducible refine SinceOf.drewN ?_ _) | (with_reducible refine SinceOf.later ?_ _) | (with_reducible refine SinceOf.further ?_ _) | (with_reducible refine SinceOf.setCell ?_ (by first | exact Nat.le_refl _ | (simp; done) | omega | (simp; omega)) _)))), by (repeat (first | (with_reducible exact SinceOf.refl _) | (with_reducible assumption) | (with_reducible refine SinceOf.alloc ?_ _) | (with_reducible refine SinceOf.drew ?_) | (with_reducible refine SinceOf.drewN ?_ _) | (with_reducible refine SinceOf.later ?_ _) | (with_reducible refine SinceOf.further ?_ _) | (with_reducible refine SinceOf.setCell ?_ (by first | exact Nat.le_refl _ | (simp; done) | omega | (simp; omega)) _)))⟩
      cases b2
      · have hnx : (E.take (i + 1)).filter fb = (E.take i).filter fb := by rw [HQ.out.2.1, HQ.out.2.2.1]; simp
        have HN := Lib.hid hnx
        clear hnx
        go_wp2_with fail
        refine region_later (by kernel_rfl) (by kernel_rfl) ?_
        repeat (go_big_quiet_step (((first | (with_reducible refine Gives.later (O1 _)) | (with_reducible refine Gives.later (O2 _))))))
        refine wpQuiet_nil ?_
        rintro _ ⟨z4, rfl⟩
        go_wp2_with fail
        go_roundg (4 - (i + 1))
        case measure => omega
        case rel => exact ⟨i + 1, A2, c2, n2, hlt, Nat.le_refl _, hn2, by rw [HN.out]; exact HQ.out.2.2.2, rfl, by go_num, by rw [HN.out]; exact HQ.out.1.of (by (repeat (first | (with_reducible exact SinceOf.refl _) | (with_reducible assumption) | (with_reducible refine SinceOf.alloc ?_ _) | (with_reducible refine SinceOf.drew ?_) | (with_reducible refine SinceOf.drewN ?_ _) | (with_reducible refine SinceOf.later ?_ _) | (with_reducible refine SinceOf.further ?_ _) | (with_reducible refine SinceOf.setCell ?_ (by first | exact Nat.le_refl _ | (simp; done) | omega | (simp; omega)) _)))), by (repeat (first | (with_reducible exact SinceOf.refl _) | (with_reducible assumption) | (with_reducible refine SinceOf.alloc ?_ _) | (with_reducible refine SinceOf.drew ?_) | (with_reducible refine SinceOf.drewN ?_ _) | (with_reducible refine SinceOf.later ?_ _) | (with_reducible refine SinceOf.further ?_ _) | (with_reducible refine SinceOf.setCell ?_ (by first | exact Nat.le_refl _ | (simp; done) | omega | (simp; omega)) _)))⟩
      · have hnx : (E.take (i + 1)).filter fb = (E.take i).filter fb ++ [(px, py)] := by rw [HQ.out.2.1, HQ.out.2.2.1]; simp
        have hn3 : n2 < 4 := by
          have h1 : ((E.take i).filter fb).length ≤ (E.take i).length := List.length_filter_le _ _
          rw [List.length_take] at h1
          have := HQ.out.2.2.2
          omega
        obtain ⟨Lf, hLf⟩ : ∃ Lf, Lf = (E.take i).filter fb := ⟨_, rfl⟩
        have HN := Lib.hid (And.intro hnx (show OwnVecs (w.heap.size + 1 + 1 + 1) z.wd A2 c2 Lf by rw [hLf]; exact HQ.out.1))
        have HL := Lib.hid (And.intro (show Lf.length = n2 by rw [hLf]; exact HQ.out.2.2.2.symm) hLf)
        clear hnx hLf
        go_wp2_with fail
        refine region_later (by kernel_rfl) (by kernel_rfl) ?_
        repeat (go_big_quiet_step (((first | (with_reducible refine Gives.later (O1 _)) | (with_reducible refine Gives.later (O2 _))))))
        refine wpQuiet_nil ?_
        rintro _ ⟨z4, rfl⟩
        have hz4 := z4.size
        have hl0 := HL.out.1
        go_wp2_with (at_builtin; refine wpList_append_row rfl (.tmp 35) (.tmp 40) 22 rfl encV_len (by omega) encV_one i0 _ 16 Tryz.underlying22 HI.out.1 HI.out.2.1 HI.out.2.2.1 HI.out.2.2.2 rfl (l := Lf) (A := A2) (c := c2) (base := w.heap.size + 1 + 1 + 1) (by rw [hl0]; rfl) (HN.out.2.of (by (repeat (first | (with_reducible exact SinceOf.refl _) | (with_reducible assumption) | (with_reducible refine SinceOf.alloc ?_ _) | (with_reducible refine SinceOf.drew ?_) | (with_reducible refine SinceOf.drewN ?_ _) | (with_reducible refine SinceOf.later ?_ _) | (with_reducible refine SinceOf.further ?_ _) | (with_reducible refine SinceOf.setCell ?_ (by first | exact Nat.le_refl _ | (simp; done) | omega | (simp; omega)) _))))) (m := [(px, py)]) rfl (isRow_atV _ _ px py (by first | rfl | simp)) (by rw [hl0]; unfold maxLen; simp; omega) (by rw [hl0]; simp; omega) (by simp; omega) ?_; intro A5 c5 w5 ho5 hgr5 hb5)
        go_roundg (4 - (i + 1))
        case measure => omega
        case rel => exact ⟨i + 1, A5, c5, n2 + 1, hlt, Nat.le_refl _, by omega, by rw [HN.out.1, List.length_append, ← HL.out.2, hl0]; rfl, rfl, by go_num, by rw [HN.out.1, ← HL.out.2]; exact ho5, SinceOf.grown (by (repeat (first | (with_reducible exact SinceOf.refl _) | (with_reducible assumption) | (with_reducible refine SinceOf.alloc ?_ _) | (with_reducible refine SinceOf.drew ?_) | (with_reducible refine SinceOf.drewN ?_ _) | (with_reducible refine SinceOf.later ?_ _) | (with_reducible refine SinceOf.further ?_ _) | (with_reducible refine SinceOf.setCell ?_ (by first | exact Nat.le_refl _ | (simp; done) | omega | (simp; omega)) _)))) hgr5 (fun q hq => (by (have := (HN.out.2.below q hq).1); simpa using this))⟩
    · obtain rfl : i = 4 := by omega
      rw [List.take_of_length_le (by rw [HC.out.2.2.2]; exact Nat.le_refl _), ← HC.out.2.1] at ho hn2e
      have HQ := Lib.hid (And.intro ho trivial)
      have hn2c : n2 = C.length := hn2e
      clear ho hn2e
      subst hn2c
      go_wp2_with fail
      have SO := refSorted_any A2 c2 C z.wd (HQ.out.1.isRow encV_len) (by omega)
      refine SO.mono ?_
      rintro e _ ⟨A3, c3, rfl, ho3, ⟨x3, rfl⟩⟩
      have HO := Lib.hid (ho3.base_le (show w.heap.size ≤ z.wd.heap.size by omega))
      clear ho3 SO
      obtain ⟨nn, hnn⟩ : ∃ nn, nn = (sortedV C).length := ⟨_, rfl⟩
      rw [← hnn]
      have HN := Lib.hid hnn
      clear hnn
      go_wp2_with fail
      go_returns
      exact ⟨A3, c3, by rw [← HN.out]; rfl, HO.out, by (repeat (first | (with_reducible exact SinceOf.refl _) | (with_reducible assumption) | (with_reducible refine SinceOf.alloc ?_ _) | (with_reducible refine SinceOf.drew ?_) | (with_reducible refine SinceOf.drewN ?_ _) | (with_reducible refine SinceOf.later ?_ _) | (with_reducible refine SinceOf.further ?_ _) | (with_reducible refine SinceOf.setCell ?_ (by first | exact Nat.le_refl _ | (simp; done) | omega | (simp; omega)) _)))⟩
theorem turnI_sign (a b c d e f : Int) : -1 ≤ turnI a b c d e f ∧ turnI a b c d e f ≤ 1 := by unfold turnI cmpi; split <;> (try split) <;> omega
theorem sideI_sign (s : SegP) (p : Pt) : -1 ≤ sideI s p ∧ sideI s p ≤ 1 := by
  unfold sideI
  split
  · exact turnI_sign _ _ _ _ _ _
  · omega
theorem sign_mul {a b : Int} (ha : -1 ≤ a ∧ a ≤ 1) (hb : -1 ≤ b ∧ b ≤ 1) : -1 ≤ a * b ∧ a * b ≤ 1 := by
  have h1 : a = -1 ∨ a = 0 ∨ a = 1 := by omega
  rcases h1 with rfl | rfl | rfl <;> omega
set_option maxRecDepth 100000 in
set_option maxHeartbeats 16000000 in
theorem refMeet_any (s t : SegP) (w : World) : Yields Tryz.prog 24 #[sgv s, sgv t] w (.int .i64 (meetI s t)) := by
  apply Yields.ret
  have VS := refSegValid_any s
  have VT := refSegValid_any t
  have CM := refCommon_any s t
  have S1 := refSide_any s t.1.1 t.1.2
  have S2 := refSide_any s t.2.1 t.2.2
  have S3 := refSide_any t s.1.1 s.1.2
  have S4 := refSide_any t s.2.1 s.2.2
  have g1 := sideI_sign s t.1
  have g2 := sideI_sign s t.2
  have g3 := sideI_sign t s.1
  have g4 := sideI_sign t s.2
  unfold meetI crossB
  obtain ⟨⟨ax, ay⟩, bx, by'⟩ := s
  obtain ⟨⟨cx, cy⟩, dx, dy⟩ := t
  simp only at *
  generalize segOk ((ax, ay), (bx, by')) = vs at *
  generalize segOk ((cx, cy), (dx, dy)) = vt at *
  generalize sortedV (comL ((ax, ay), (bx, by')) ((cx, cy), (dx, dy))) = C at *
  generalize sideI ((ax, ay), (bx, by')) (cx, cy) = d1 at *
  generalize sideI ((ax, ay), (bx, by')) (dx, dy) = d2 at *
  generalize sideI ((cx, cy), (dx, dy)) (ax, ay) = d3 at *
  generalize sideI ((cx, cy), (dx, dy)) (bx, by') = d4 at *
  cases vs
  · clear CM S1 S2 S3 S4 VT
    go_enter Tryz.func24, Tryz.ntmps24
    go_wp2_with fail
    refine (VS _).calls.mono ?_
    rintro e _ ⟨rfl, x1, rfl⟩
    go_wp2_with fail
    go_returns
    exact ⟨rfl, by (repeat (first | (with_reducible exact SinceOf.refl _) | (with_reducible assumption) | (with_reducible refine SinceOf.alloc ?_ _) | (with_reducible refine SinceOf.drew ?_) | (with_reducible refine SinceOf.drewN ?_ _) | (with_reducible refine SinceOf.later ?_ _) | (with_reducible refine SinceOf.further ?_ _) | (with_reducible refine SinceOf.setCell ?_ (by first | exact Nat.le_refl _ | (simp; done) | omega | (simp; omega)) _)))⟩
  cases vt
  · clear CM S1 S2 S3 S4
    go_enter Tryz.func24, Tryz.ntmps24
    go_wp2_with fail
    refine (VS _).calls.mono ?_
    rintro e _ ⟨rfl, x1, rfl⟩
    go_wp2_with fail
    refine (VT _).calls.mono ?_
    rintro e _ ⟨rfl, x2, rfl⟩
    go_wp2_with fail
    go_returns
    exact ⟨rfl, by (repeat (first | (with_reducible exact SinceOf.refl _) | (with_reducible assumption) | (with_reducible refine SinceOf.alloc ?_ _) | (with_reducible refine SinceOf.drew ?_) | (with_reducible refine SinceOf.drewN ?_ _) | (with_reducible refine SinceOf.later ?_ _) | (with_reducible refine SinceOf.further ?_ _) | (with_reducible refine SinceOf.setCell ?_ (by first | exact Nat.le_refl _ | (simp; done) | omega | (simp; omega)) _)))⟩
  obtain ⟨n, hn⟩ : ∃ n, n = C.length := ⟨_, rfl⟩
  rw [← hn] at CM ⊢
  have HN := Lib.hid hn
  clear hn
  by_cases h1 : 1 < n
  · have HQ := Lib.hid h1
    have q1 : decide ((1 : Int) < (n : Int)) = true := decide_eq_true (by omega)
    have q1' : decide (1 < n) = true := decide_eq_true h1
    clear h1 S1 S2 S3 S4
    go_enter Tryz.func24, Tryz.ntmps24
    go_wp2_with fail
    refine (VS _).calls.mono ?_
    rintro e _ ⟨rfl, x1, rfl⟩
    go_wp2_with fail
    refine (VT _).calls.mono ?_
    rintro e _ ⟨rfl, x2, rfl⟩
    go_wp2_with fail
    refine (CM _).mono ?_
    rintro e _ ⟨A3, c3, rfl, -, ⟨x3, rfl⟩⟩
    go_wp2_with fail
    go_returns
    exact ⟨by first | rfl | (rw [if_pos rfl, if_pos HQ.out]; rfl), by (repeat (first | (with_reducible exact SinceOf.refl _) | (with_reducible assumption) | (with_reducible refine SinceOf.alloc ?_ _) | (with_reducible refine SinceOf.drew ?_) | (with_reducible refine SinceOf.drewN ?_ _) | (with_reducible refine SinceOf.later ?_ _) | (with_reducible refine SinceOf.further ?_ _) | (with_reducible refine SinceOf.setCell ?_ (by first | exact Nat.le_refl _ | (simp; done) | omega | (simp; omega)) _)))⟩
  by_cases h2 : n = 1
  · subst h2
    clear S1 S2 S3 S4
    go_enter Tryz.func24, Tryz.ntmps24
    go_wp2_with fail
    refine (VS _).calls.mono ?_
    rintro e _ ⟨rfl, x1, rfl⟩
    go_wp2_with fail
    refine (VT _).calls.mono ?_
    rintro e _ ⟨rfl, x2, rfl⟩
    go_wp2_with fail
    refine (CM _).mono ?_
    rintro e _ ⟨A3, c3, rfl, -, ⟨x3, rfl⟩⟩
    go_wp2_with fail
    go_returns
    exact ⟨rfl, by (repeat (first | (with_reducible exact SinceOf.refl _) | (with_reducible assumption) | (with_reducible refine SinceOf.alloc ?_ _) | (with_reducible refine SinceOf.drew ?_) | (with_reducible refine SinceOf.drewN ?_ _) | (with_reducible refine SinceOf.later ?_ _) | (with_reducible refine SinceOf.further ?_ _) | (with_reducible refine SinceOf.setCell ?_ (by first | exact Nat.le_refl _ | (simp; done) | omega | (simp; omega)) _)))⟩
  obtain rfl : n = 0 := by omega
  clear h1 h2
  have p1 := sign_mul g1 g2
  have p2 := sign_mul g3 g4
  have w1 : IntKind.i64.wrap (d1 * d2) = d1 * d2 := IntWalk.i64_in _ (by omega)
  have w2 : IntKind.i64.wrap (d3 * d4) = d3 * d4 := IntWalk.i64_in _ (by omega)
  obtain ⟨b1, hb1⟩ : ∃ b1, b1 = decide (d1 * d2 < 0) := ⟨_, rfl⟩
  obtain ⟨b2, hb2⟩ : ∃ b2, b2 = decide (d3 * d4 < 0) := ⟨_, rfl⟩
  rw [← hb1, ← hb2]
  have k1 := hb1.symm
  have k2 := hb2.symm
  clear hb1 hb2 p1 p2 g1 g2 g3 g4
  cases b1
  · clear k2 w2 S3 S4
    go_enter Tryz.func24, Tryz.ntmps24
    go_wp2_with fail
    refine (VS _).calls.mono ?_
    rintro e _ ⟨rfl, x1, rfl⟩
    go_wp2_with fail
    refine (VT _).calls.mono ?_
    rintro e _ ⟨rfl, x2, rfl⟩
    go_wp2_with fail
    refine (CM _).mono ?_
    rintro e _ ⟨A3, c3, rfl, -, ⟨x3, rfl⟩⟩
    go_wp2_with fail
    refine region_later (by kernel_rfl) (by kernel_rfl) ?_
    repeat (go_big_quiet_step ((first | (with_reducible refine Gives.later (S1 _)) | (with_reducible refine Gives.later (S2 _)))))
    refine wpQuiet_nil ?_
    rintro _ ⟨x4, rfl⟩
    go_wp2_with fail
    go_returns
    exact ⟨rfl, by (repeat (first | (with_reducible exact SinceOf.refl _) | (with_reducible assumption) | (with_reducible refine SinceOf.alloc ?_ _) | (with_reducible refine SinceOf.drew ?_) | (with_reducible refine SinceOf.drewN ?_ _) | (with_reducible refine SinceOf.later ?_ _) | (with_reducible refine SinceOf.further ?_ _) | (with_reducible refine SinceOf.setCell ?_ (by first | exact Nat.le_refl _ | (simp; done) | omega | (simp; omega)) _)))⟩
  · cases b2
    · go_enter Tryz.func24, Tryz.ntmps24
      go_wp2_with fail
      refine (VS _).calls.mono ?_
      rintro e _ ⟨rfl, x1, rfl⟩
      go_wp2_with fail
      refine (VT _).calls.mono ?_
      rintro e _ ⟨rfl, x2, rfl⟩
      go_wp2_with fail
      refine (CM _).mono ?_
      rintro e _ ⟨A3, c3, rfl, -, ⟨x3, rfl⟩⟩
      go_wp2_with fail
      refine region_later (by kernel_rfl) (by kernel_rfl) ?_
      repeat (go_big_quiet_step ((first | (with_reducible refine Gives.later (S1 _)) | (with_reducible refine Gives.later (S2 _)) | (with_reducible refine Gives.later (S3 _)) | (with_reducible refine Gives.later (S4 _)))))
      refine wpQuiet_nil ?_
      rintro _ ⟨x4, rfl⟩
      go_wp2_with fail
      go_returns
      exact ⟨rfl, by (repeat (first | (with_reducible exact SinceOf.refl _) | (with_reducible assumption) | (with_reducible refine SinceOf.alloc ?_ _) | (with_reducible refine SinceOf.drew ?_) | (with_reducible refine SinceOf.drewN ?_ _) | (with_reducible refine SinceOf.later ?_ _) | (with_reducible refine SinceOf.further ?_ _) | (with_reducible refine SinceOf.setCell ?_ (by first | exact Nat.le_refl _ | (simp; done) | omega | (simp; omega)) _)))⟩
    · go_enter Tryz.func24, Tryz.ntmps24
      go_wp2_with fail
      refine (VS _).calls.mono ?_
      rintro e _ ⟨rfl, x1, rfl⟩
      go_wp2_with fail
      refine (VT _).calls.mono ?_
      rintro e _ ⟨rfl, x2, rfl⟩
      go_wp2_with fail
      refine (CM _).mono ?_
      rintro e _ ⟨A3, c3, rfl, -, ⟨x3, rfl⟩⟩
      go_wp2_with fail
      refine region_later (by kernel_rfl) (by kernel_rfl) ?_
      repeat (go_big_quiet_step ((first | (with_reducible refine Gives.later (S1 _)) | (with_reducible refine Gives.later (S2 _)) | (with_reducible refine Gives.later (S3 _)) | (with_reducible refine Gives.later (S4 _)))))
      refine wpQuiet_nil ?_
      rintro _ ⟨x4, rfl⟩
      go_wp2_with fail
      go_returns
      exact ⟨rfl, by (repeat (first | (with_reducible exact SinceOf.refl _) | (with_reducible assumption) | (with_reducible refine SinceOf.alloc ?_ _) | (with_reducible refine SinceOf.drew ?_) | (with_reducible refine SinceOf.drewN ?_ _) | (with_reducible refine SinceOf.later ?_ _) | (with_reducible refine SinceOf.further ?_ _) | (with_reducible refine SinceOf.setCell ?_ (by first | exact Nat.le_refl _ | (simp; done) | omega | (simp; omega)) _)))⟩
end Go.Proofs.YtkpnffokjpgalaaGreat
