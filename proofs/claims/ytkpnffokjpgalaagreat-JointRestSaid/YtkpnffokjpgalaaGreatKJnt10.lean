/- Layer 46: meet of package seg, first: no common line. -/
import Derived.Test.YtkpnffokjpgalaaGreatKJnt9
import Derived.Test.YtkpnffokjpgalaaGreatKSl
import Derived.Outline
import Derived.Test.YtkpnffokjpgalaaGreatKJntP8
namespace Go.Proofs.YtkpnffokjpgalaaGreat
set_option linter.unusedVariables false
set_option linter.unusedSimpArgs false
open Go.RowKit Go.Sort
attribute [local go_sem ↓] Go.wp_at_zero Go.wp_at_succ

/-- What meet answers. -/
def MeetE (w : World) (k : Int × SegP) (e : Ending) (w' : World) : Prop := ∃ x y d, e = .returned (cm k.1 x y d k.2) ∧ LaterOf w w'
def meetP (s t : SegP) : Int × SegP := if segOk s && segOk t then meetK s.1 s.2 t.1 t.2 else (0, noSeg)
set_option maxRecDepth 100000 in
set_option maxHeartbeats 8000000 in
theorem meet_bad (s t : SegP) (h : (segOk s && segOk t) = false) (w : World) : Calls Tryz.prog 89 #[sgv s, sgv t] w (MeetE w (0, noSeg)) := by
  unfold MeetE
  have V1 := segValid_any s
  have V2 := segValid_any t
  cases h1 : segOk s
  · rw [h1] at V1
    clear V2 h h1
    go_enter Tryz.func89, Tryz.ntmps89
    go_wp2_with fail
    refine (V1 _).calls.mono ?_
    rintro e _ ⟨rfl, x1, rfl⟩
    go_wp2_with fail
    go_returns
    exact ⟨_, _, _, rfl, by (repeat (first | (with_reducible exact LaterOf.refl _) | (with_reducible refine LaterOf.alloc ?_ _) | (with_reducible refine LaterOf.drew ?_) | (with_reducible refine LaterOf.drewN ?_ _) | (with_reducible refine LaterOf.later ?_ _) | (with_reducible refine LaterOf.setCell ?_ (by first | exact Nat.le_refl _ | (simp; done) | omega | (simp; omega)) _)))⟩
  · rw [h1, Bool.true_and] at h
    rw [h1] at V1
    rw [h] at V2
    clear h h1
    go_enter Tryz.func89, Tryz.ntmps89
    go_wp2_with fail
    refine (V1 _).calls.mono ?_
    rintro e _ ⟨rfl, x1, rfl⟩
    go_wp2_with fail
    refine (V2 _).calls.mono ?_
    rintro e _ ⟨rfl, x2, rfl⟩
    go_wp2_with fail
    go_returns
    exact ⟨_, _, _, rfl, by (repeat (first | (with_reducible exact LaterOf.refl _) | (with_reducible refine LaterOf.alloc ?_ _) | (with_reducible refine LaterOf.drew ?_) | (with_reducible refine LaterOf.drewN ?_ _) | (with_reducible refine LaterOf.later ?_ _) | (with_reducible refine LaterOf.setCell ?_ (by first | exact Nat.le_refl _ | (simp; done) | omega | (simp; omega)) _)))⟩
set_option maxRecDepth 100000 in
set_option maxHeartbeats 8000000 in
theorem meet_skew (s t : SegP) (hs : segOk s = true) (ht : segOk t = true) (hd : cr4 s.1 s.2 t.1 t.2 ≠ 0) (w : World) : Calls Tryz.prog 89 #[sgv s, sgv t] w (MeetE w (meetK s.1 s.2 t.1 t.2)) := by
  have hn : (meetK s.1 s.2 t.1 t.2).2 = noSeg := by unfold meetK; rw [if_pos hd]
  have hm : meetK s.1 s.2 t.1 t.2 = ((meetK s.1 s.2 t.1 t.2).1, noSeg) := Prod.ext rfl hn
  rw [hm]
  clear hn hm
  unfold MeetE
  have V1 := segValid_any s
  have V2 := segValid_any t
  rw [hs] at V1
  rw [ht] at V2
  have LN := lines_any s t hs ht hd
  obtain ⟨h1, h2⟩ := segOk_near.1 hs
  obtain ⟨h3, h4⟩ := segOk_near.1 ht
  obtain ⟨e1, e2, s1, s2⟩ := sub_sml h1 h2
  obtain ⟨e3, e4, s3, s4⟩ := sub_sml h3 h4
  have S1 := sub_any s.2.1 s.2.2 s.1.1 s.1.2
  have S2 := sub_any t.2.1 t.2.2 t.1.1 t.1.2
  rw [e1, e2] at S1
  rw [e3, e4] at S2
  have C1 := cross_any (s.2.1 - s.1.1) (s.2.2 - s.1.2) (t.2.1 - t.1.1) (t.2.2 - t.1.2)
  rw [(cross_sml s1 s2 s3 s4).1] at C1
  change ∀ w, Gives _ _ _ w (.int .i64 (cr4 s.1 s.2 t.1 t.2)) at C1
  have hd0 : (cr4 s.1 s.2 t.1 t.2 != 0) = true := by simpa using hd
  generalize (meetK s.1 s.2 t.1 t.2).1 = K at *
  generalize cr4 s.1 s.2 t.1 t.2 = D at *
  generalize s.2.1 - s.1.1 = ux at *
  generalize s.2.2 - s.1.2 = uy at *
  generalize t.2.1 - t.1.1 = vx at *
  generalize t.2.2 - t.1.2 = vy at *
  clear hs ht h1 h2 h3 h4 e1 e2 e3 e4 s1 s2 s3 s4 hd
  go_enter Tryz.func89, Tryz.ntmps89
  go_wp2_with fail
  refine (V1 _).calls.mono ?_
  rintro e _ ⟨rfl, x1, rfl⟩
  go_wp2_with fail
  refine (V2 _).calls.mono ?_
  rintro e _ ⟨rfl, x2, rfl⟩
  go_wp2_with fail
  refine region_later (by kernel_rfl) (by kernel_rfl) ?_
  repeat (go_big_quiet_step ((first | (with_reducible refine Gives.later (S1 _)) | (with_reducible refine Gives.later (S2 _)) | (with_reducible refine Gives.later (C1 _)))))
  refine wpQuiet_nil ?_
  rintro _ ⟨x3, rfl⟩
  go_wp2_with fail
  refine (LN _).mono ?_
  rintro e _ ⟨x, y, d, rfl, ⟨x4, rfl⟩⟩
  go_wp2_with fail
  go_returns
  exact ⟨_, _, _, rfl, by (repeat (first | (with_reducible exact LaterOf.refl _) | (with_reducible refine LaterOf.alloc ?_ _) | (with_reducible refine LaterOf.drew ?_) | (with_reducible refine LaterOf.drewN ?_ _) | (with_reducible refine LaterOf.later ?_ _) | (with_reducible refine LaterOf.setCell ?_ (by first | exact Nat.le_refl _ | (simp; done) | omega | (simp; omega)) _)))⟩
end Go.Proofs.YtkpnffokjpgalaaGreat
/- Layer 46: meet of package seg, segments whose directions are parallel. -/
namespace Go.Proofs.YtkpnffokjpgalaaGreat
set_option linter.unusedVariables false
set_option linter.unusedSimpArgs false
open Go.RowKit Go.Sort
attribute [local go_sem ↓] Go.wp_at_zero Go.wp_at_succ

theorem vcmp_key {p q : Pt} (hp : near4 p) (hq : near4 q) : vcmp p.1 p.2 q.1 q.2 = cmpi (key p) (key q) := by
  unfold near4 at hp hq
  unfold key
  rcases vcmp_cases p.1 p.2 q.1 q.2 with ⟨h, e⟩ | ⟨h, e⟩ | ⟨h, h', e⟩ <;> rw [e] <;> unfold cmpi <;> split <;> (try split) <;> first | rfl | omega
theorem less_key {p q : Pt} (hp : near4 p) (hq : near4 q) (w : World) : Gives Tryz.prog 117 #[vv p.1 p.2, vv q.1 q.2] w (.bool (decide (key p < key q))) := by
  have := less_any p.1 p.2 q.1 q.2 w
  rw [vcmp_key hp hq] at this
  rw [show decide (key p < key q) = decide (cmpi (key p) (key q) < 0) by rw [decide_eq_decide]; unfold cmpi; split <;> (try split) <;> omega]
  exact this
/-- What a swap in a row leaves. -/
theorem Live.swapJ {w : World} {g off : Nat} {l : List (Int × Int)} (h : Live encV 2 w g off l) {x y : Nat} (hx : x < l.length) (hy : y < l.length) {px py qx qy : Int} (ep : at0 l x = (px, py)) (eq : at0 l y = (qx, qy)) :
    Live encV 2 ((((w.setCell ⟨g, off + x * 2, none⟩ (.int .i64 qx)).setCell ⟨g, off + x * 2 + 1, none⟩ (.int .i64 qy)).setCell ⟨g, off + y * 2, none⟩ (.int .i64 px)).setCell ⟨g, off + y * 2 + 1, none⟩ (.int .i64 py)) g off (swp2 l x y) := by
  have := (h.set x hx qx qy).set y (by simpa using hy) px py
  unfold swp2
  rw [ep, eq]
  exact this
/-- The ends of both segments, behind the first x / 2 exchanges. -/
def endsK (a b c d : Pt) (x : Nat) : List Pt := if x = 0 then [a, b, c, d] else if x = 2 then [mnK a b, mxK a b, c, d] else [mnK a b, mxK a b, mnK c d, mxK c d]
theorem endsK_near {a b c d : Pt} (ha : near4 a) (hb : near4 b) (hc : near4 c) (hd : near4 d) (x : Nat) : (endsK a b c d x).length = 4 ∧ ∀ i, i < 4 → near4 (at0 (endsK a b c d x) i) := by
  unfold endsK
  have h1 := mnK_near ha hb
  have h2 := mxK_near ha hb
  have h3 := mnK_near hc hd
  have h4 := mxK_near hc hd
  have four : ∀ {p q r s : Pt}, near4 p → near4 q → near4 r → near4 s → ∀ i, i < 4 → near4 (at0 [p, q, r, s] i) := fun hp hq hr hs i hi => by
    rcases (by omega : i = 0 ∨ i = 1 ∨ i = 2 ∨ i = 3) with rfl | rfl | rfl | rfl <;> assumption
  split
  · exact ⟨rfl, four ha hb hc hd⟩
  · split
    · exact ⟨rfl, four h1 h2 hc hd⟩
    · exact ⟨rfl, four h1 h2 h3 h4⟩
theorem endsK_next {a b c d : Pt} (ha : near4 a) (hb : near4 b) (hc : near4 c) (hd : near4 d) (x : Nat) (hx : x = 0 ∨ x = 2) :
    endsK a b c d (x + 2) = if key (at0 (endsK a b c d x) (x + 1)) < key (at0 (endsK a b c d x) x) then swp2 (endsK a b c d x) x (x + 1) else endsK a b c d x := by
  have mm : ∀ {p q : Pt}, near4 p → near4 q → (key q < key p → mnK p q = q ∧ mxK p q = p) ∧ (¬ key q < key p → mnK p q = p ∧ mxK p q = q) := fun {p q} hp hq => by
    have hk := key_inj hp hq
    unfold mnK mxK
    refine ⟨fun h => ⟨if_pos h, if_neg (by omega)⟩, fun h => ⟨if_neg h, ?_⟩⟩
    split
    · rfl
    · exact hk.1 (by omega)
  rcases hx with rfl | rfl
  · have m := mm ha hb
    change endsK a b c d 2 = if key b < key a then [b, a, c, d] else [a, b, c, d]
    change [mnK a b, mxK a b, c, d] = _
    split
    · rename_i h; rw [(m.1 h).1, (m.1 h).2]
    · rename_i h; rw [(m.2 h).1, (m.2 h).2]
  · have m := mm hc hd
    change [mnK a b, mxK a b, mnK c d, mxK c d] = if key d < key c then [mnK a b, mxK a b, d, c] else [mnK a b, mxK a b, c, d]
    split
    · rename_i h; rw [(m.1 h).1, (m.1 h).2]
    · rename_i h; rw [(m.2 h).1, (m.2 h).2]
/-- What parallel segments have in common, test by test. -/
theorem meet_tests {s t : SegP} (hs : segOk s = true) (ht : segOk t = true) (h0 : cr4 s.1 s.2 t.1 t.2 = 0) :
    ((eqv s.1.1 s.1.2 s.2.1 s.2.2 && onB t s.1) = true → meetK s.1 s.2 t.1 t.2 = (1, noSeg)) ∧
    ((eqv s.1.1 s.1.2 s.2.1 s.2.2 && onB t s.1) = false → (eqv t.1.1 t.1.2 t.2.1 t.2.2 && onB s t.1) = true → meetK s.1 s.2 t.1 t.2 = (1, noSeg)) ∧
    ((eqv s.1.1 s.1.2 s.2.1 s.2.2 && onB t s.1) = false → (eqv t.1.1 t.1.2 t.2.1 t.2.2 && onB s t.1) = false → (eqv s.1.1 s.1.2 s.2.1 s.2.2 || eqv t.1.1 t.1.2 t.2.1 t.2.2 || (turnI s.1.1 s.1.2 s.2.1 s.2.2 t.1.1 t.1.2 != 0)) = true → meetK s.1 s.2 t.1 t.2 = (0, noSeg)) ∧
    ((eqv s.1.1 s.1.2 s.2.1 s.2.2 && onB t s.1) = false → (eqv t.1.1 t.1.2 t.2.1 t.2.2 && onB s t.1) = false → (eqv s.1.1 s.1.2 s.2.1 s.2.2 || eqv t.1.1 t.1.2 t.2.1 t.2.2 || (turnI s.1.1 s.1.2 s.2.1 s.2.2 t.1.1 t.1.2 != 0)) = false →
      meetK s.1 s.2 t.1 t.2 = if key (loK s.1 s.2 t.1 t.2) = key (hiK s.1 s.2 t.1 t.2) then (1, noSeg) else if key (loK s.1 s.2 t.1 t.2) < key (hiK s.1 s.2 t.1 t.2) then (3, (loK s.1 s.2 t.1 t.2, hiK s.1 s.2 t.1 t.2)) else (0, noSeg)) := by
  obtain ⟨h1, h2⟩ := segOk_near.1 hs
  obtain ⟨h3, h4⟩ := segOk_near.1 ht
  have o1 : onB t s.1 = onSB t.1 t.2 s.1 := Bool.eq_iff_iff.2 ((onB_iff ht h1).trans onSB_iff.symm)
  have o2 : onB s t.1 = onSB s.1 s.2 t.1 := Bool.eq_iff_iff.2 ((onB_iff hs h3).trans onSB_iff.symm)
  have q1 : eqv s.1.1 s.1.2 s.2.1 s.2.2 = true ↔ s.1 = s.2 := by rw [eqv_iff]; exact ⟨fun h => Prod.ext h.1 h.2, fun h => by rw [h]; exact ⟨rfl, rfl⟩⟩
  have q2 : eqv t.1.1 t.1.2 t.2.1 t.2.2 = true ↔ t.1 = t.2 := by rw [eqv_iff]; exact ⟨fun h => Prod.ext h.1 h.2, fun h => by rw [h]; exact ⟨rfl, rfl⟩⟩
  have tz : (turnI s.1.1 s.1.2 s.2.1 s.2.2 t.1.1 t.1.2 != 0) = true ↔ det s.1 s.2 t.1 ≠ 0 := by
    rw [turn_det h1 h2 h3, bne_iff_ne, ne_eq, cmpi_zero]
  rw [o1, o2]
  have a1 : (eqv s.1.1 s.1.2 s.2.1 s.2.2 && onSB t.1 t.2 s.1) = true ↔ (s.1 = s.2 ∧ onSB t.1 t.2 s.1 = true) := by rw [Bool.and_eq_true, q1]
  have a2 : (eqv t.1.1 t.1.2 t.2.1 t.2.2 && onSB s.1 s.2 t.1) = true ↔ (t.1 = t.2 ∧ onSB s.1 s.2 t.1 = true) := by rw [Bool.and_eq_true, q2]
  have a3 : (eqv s.1.1 s.1.2 s.2.1 s.2.2 || eqv t.1.1 t.1.2 t.2.1 t.2.2 || (turnI s.1.1 s.1.2 s.2.1 s.2.2 t.1.1 t.1.2 != 0)) = true ↔ (s.1 = s.2 ∨ t.1 = t.2 ∨ det s.1 s.2 t.1 ≠ 0) := by
    rw [Bool.or_eq_true, Bool.or_eq_true, q1, q2, tz, or_assoc]
  have e0 : ¬ cr4 s.1 s.2 t.1 t.2 ≠ 0 := by rw [h0]; simp
  simp only [← Bool.not_eq_true, a1, a2, a3]
  unfold meetK
  refine ⟨fun g => ?_, fun g1 g2 => ?_, fun g1 g2 g3 => ?_, fun g1 g2 g3 => ?_⟩
  · rw [if_neg e0, if_pos g]
  · rw [if_neg e0, if_neg g1, if_pos g2]
  · rw [if_neg e0, if_neg g1, if_neg g2, if_pos g3]
  · rw [if_neg e0, if_neg g1, if_neg g2, if_neg g3]
end Go.Proofs.YtkpnffokjpgalaaGreat
/- Layer 46 (plain): the kind of meeting of two segments that are no points. -/
namespace Go.Proofs.YtkpnffokjpgalaaGreat
set_option linter.unusedVariables false
set_option linter.unusedSimpArgs false

theorem segN_ok {s : SegP} (h : IsSegN s) : segOk s = true := segOk_near.2 h.2
theorem meetP_K {s o : SegP} (hs : IsSegN s) (ho : IsSegN o) : meetP s o = meetK s.1 s.2 o.1 o.2 := by
  unfold meetP; rw [segN_ok hs, segN_ok ho]; rfl
end Go.Proofs.YtkpnffokjpgalaaGreat
