/- Layer 46: lines of package seg. -/
import Derived.Test.YtkpnffokjpgalaaGreatKJnt6
import Derived.Deep.CutBlock
import Derived.Deep.DeepCutAuto
import Derived.Deep.CutRange
namespace Go.Proofs.YtkpnffokjpgalaaGreat
set_option linter.unusedVariables false
set_option linter.unusedSimpArgs false
open Go.RowKit Go.Sort
attribute [local go_sem ↓] Go.wp_at_zero Go.wp_at_succ

/-- A variable of type Vec. -/
structure VarJ (W : World) (g : Nat) (p : Pt) : Prop where
  c0 : W.cell? ⟨g, 0, none⟩ = some (.int .i64 p.1)
  c1 : W.cell? ⟨g, 1, none⟩ = some (.int .i64 p.2)
  f0 : W.frozen? ⟨g, 0, none⟩ = false
  f1 : W.frozen? ⟨g, 1, none⟩ = false
  lt : g < W.heap.size
theorem VarJ.of {W W' : World} {g : Nat} {p : Pt} (h : VarJ W g p) (hs : SinceOf W W') : VarJ W' g p := by
  obtain ⟨z, rfl⟩ := hs
  have b := z.below.block g h.lt
  exact ⟨(World.cell?_of_block b).trans h.c0, (World.cell?_of_block b).trans h.c1, (World.frozen?_of_block b).trans h.f0, (World.frozen?_of_block b).trans h.f1, Nat.lt_of_lt_of_le h.lt z.size⟩
theorem VarJ.put {W : World} {g : Nat} {p : Pt} (h : VarJ W g p) (x y : Int) : VarJ ((W.setCell ⟨g, 0, none⟩ (.int .i64 x)).setCell ⟨g, 1, none⟩ (.int .i64 y)) g (x, y) := by
  obtain ⟨c0, c1, f0, f1, lt⟩ := h
  exact ⟨by simp [go_sem, *], by simp [go_sem, *], by simp [go_sem, *], by simp [go_sem, *], by simpa using lt⟩
theorem VarJ.other {W : World} {g k : Nat} {p : Pt} (h : VarJ W g p) (hne : k ≠ g) (x y : Value) : VarJ ((W.setCell ⟨k, 0, none⟩ x).setCell ⟨k, 1, none⟩ y) g p := by
  obtain ⟨c0, c1, f0, f1, lt⟩ := h
  exact ⟨by rw [World.cell?_setCell_other _ _ _ _ (by simp), World.cell?_setCell_other _ _ _ _ (by simp)]; exact c0, by rw [World.cell?_setCell_other _ _ _ _ (by simp), World.cell?_setCell_other _ _ _ _ (by simp)]; exact c1, by simpa using f0, by simpa using f1, by simpa using lt⟩
theorem VarJ.new (W : World) (x y : Int) (t : TypeId) : VarJ (W.alloc (.cells #[.int .i64 x, .int .i64 y] t)) W.heap.size (x, y) := ⟨by simp [go_sem], by simp [go_sem], by simp [go_sem], by simp [go_sem], by simp⟩
theorem VarJ.allocd {W : World} {g : Nat} {p : Pt} (h : VarJ W g p) (o : Obj) : VarJ (W.alloc o) g p := h.of ((SinceOf.refl _).alloc o)
theorem VarJ.latr {W : World} {g : Nat} {p : Pt} (h : VarJ W g p) (y : Later W) : VarJ y.wd g p := h.of ((SinceOf.refl _).later y)
theorem VarJ.drewd {W : World} {g : Nat} {p : Pt} (h : VarJ W g p) : VarJ W.drew g p := h.of ((SinceOf.refl _).drew)
theorem VarJ.new1 (W : World) (x y : Int) (t : TypeId) (g : Nat) (hg : W.heap.size = g) : VarJ (W.alloc (.cells #[.int .i64 x, .int .i64 y] t)) g (x, y) := hg ▸ VarJ.new W x y t
theorem gcd_big {x y : Int} (hx : big15 x) (hy : big15 y) : big15 (gcdI x y) := by
  have h : (Int.gcd x y : Nat) ≤ x.natAbs ∨ (Int.gcd x y : Nat) = y.natAbs := by
    by_cases h0 : x = 0
    · right; subst h0; simp
    · left; exact Nat.le_of_dvd (by omega) (Nat.gcd_dvd_left _ _)
  unfold gcdI big15 at *
  omega
theorem gcd_pos {x y : Int} (hy : 0 < y) : ¬ gcdI x y = 0 := by
  intro h
  have : Int.gcd x y = 0 := by unfold gcdI at h; omega
  rw [Int.gcd_eq_zero_iff] at this
  omega
/-- What the last steps need: no wrap. -/
theorem line_facts {p q a d : Int} (hp : sml p) (hq : sml q) (ha : mid9 a) (hd : mid9 d) :
    IntKind.i64.wrap (p * d) = p * d ∧ IntKind.i64.wrap (a * q) = a * q ∧ IntKind.i64.wrap (p * d + a * q) = p * d + a * q ∧ big15 (p * d + a * q) := by
  have m1 := mul_mid hp hd
  have m2 := mul_mid hq ha
  rw [Int.mul_comm q a] at m2
  unfold big15
  exact ⟨IntWalk.i64_in _ (by omega), IntWalk.i64_in _ (by omega), IntWalk.i64_in _ (by omega), by omega⟩
/-- What lines answers. -/
def LinE (w : World) (k : Int) (e : Ending) (w' : World) : Prop := ∃ x y d, e = .returned (cm k x y d noSeg) ∧ LaterOf w w'
set_option maxRecDepth 100000 in
set_option maxHeartbeats 64000000 in
theorem lines_any (s t : SegP) (hs : segOk s = true) (ht : segOk t = true) (hd : cr4 s.1 s.2 t.1 t.2 ≠ 0) (w : World) :
    Calls Tryz.prog 115 #[sgv s, sgv t, .int .i64 (cr4 s.1 s.2 t.1 t.2)] w (LinE w (meetK s.1 s.2 t.1 t.2).1) := by
  rw [kindL_meet hd]
  obtain ⟨h1, h2⟩ := segOk_near.1 hs
  obtain ⟨h3, h4⟩ := segOk_near.1 ht
  obtain ⟨e1, e2, s1, s2⟩ := sub_sml h1 h2
  obtain ⟨e3, e4, s3, s4⟩ := sub_sml h3 h4
  obtain ⟨e5, e6, s5, s6⟩ := sub_sml h1 h3
  have S1 := sub_any s.2.1 s.2.2 s.1.1 s.1.2
  have S2 := sub_any t.2.1 t.2.2 t.1.1 t.1.2
  have S3 := sub_any t.1.1 t.1.2 s.1.1 s.1.2
  rw [e1, e2] at S1
  rw [e3, e4] at S2
  rw [e5, e6] at S3
  have C1 := cross_any (t.1.1 - s.1.1) (t.1.2 - s.1.2) (t.2.1 - t.1.1) (t.2.2 - t.1.2)
  have C2 := cross_any (t.1.1 - s.1.1) (t.1.2 - s.1.2) (s.2.1 - s.1.1) (s.2.2 - s.1.2)
  obtain ⟨f1, k1⟩ := cross_sml s5 s6 s3 s4
  obtain ⟨f2, k2⟩ := cross_sml s5 s6 s1 s2
  have k3 := (cross_sml s1 s2 s3 s4).2
  rw [f1] at C1
  rw [f2] at C2
  have d1 : (t.1.1 - s.1.1) * (t.2.2 - t.1.2) - (t.1.2 - s.1.2) * (t.2.1 - t.1.1) = det t.1 t.2 s.1 := by unfold det; grind
  have d2 : (t.1.1 - s.1.1) * (s.2.2 - s.1.2) - (t.1.2 - s.1.2) * (s.2.1 - s.1.1) = -det s.1 s.2 t.1 := by unfold det; grind
  have d3 : (s.2.1 - s.1.1) * (t.2.2 - t.1.2) - (s.2.2 - s.1.2) * (t.2.1 - t.1.1) = cr4 s.1 s.2 t.1 t.2 := rfl
  rw [d1] at C1 k1
  rw [d2] at C2 k2
  rw [d3] at k3
  rw [show det s.1 s.2 t.1 = -(-det s.1 s.2 t.1) by omega]
  rw [show - -(-det s.1 s.2 t.1) = -det s.1 s.2 t.1 by omega]
  simp only
  have n1 : sml s.1.1 ∧ sml s.1.2 := by unfold near4 at h1; unfold sml; omega
  generalize cr4 s.1 s.2 t.1 t.2 = D at *
  generalize det t.1 t.2 s.1 = a0 at *
  generalize -det s.1 s.2 t.1 = b0 at *
  generalize s.2.1 - s.1.1 = ux at *
  generalize s.2.2 - s.1.2 = uy at *
  generalize t.2.1 - t.1.1 = vx at *
  generalize t.2.2 - t.1.2 = vy at *
  generalize t.1.1 - s.1.1 = gx at *
  generalize t.1.2 - s.1.2 = gy at *
  clear hs ht h1 h2 h3 h4 e1 e2 e3 e4 e5 e6 s3 s4 s5 s6 f1 f2 d1 d2 d3
  obtain ⟨⟨ax, ay⟩, bx, by'⟩ := s
  obtain ⟨⟨cx, cy⟩, dx, dy⟩ := t
  simp only at *
  obtain ⟨n1, n2⟩ := n1
  obtain ⟨K, hK⟩ : ∃ K, K = (if 0 < D then kindL a0 b0 D else kindL (-a0) (-b0) (-D)) := ⟨_, rfl⟩
  rw [← hK]
  obtain ⟨a1, ha1⟩ : ∃ x, x = (if 0 < D then a0 else -a0) := ⟨_, rfl⟩
  obtain ⟨b1, hb1⟩ : ∃ x, x = (if 0 < D then b0 else -b0) := ⟨_, rfl⟩
  obtain ⟨d1, hd1⟩ : ∃ x, x = (if 0 < D then D else -D) := ⟨_, rfl⟩
  have hK1 : K = kindL a1 b1 d1 := by rw [hK, ha1, hb1, hd1]; split <;> rfl
  have w1 : IntKind.i64.wrap (-a0) = -a0 := IntWalk.i64_in _ (by unfold mid9 at k1; omega)
  have w2 : IntKind.i64.wrap (-b0) = -b0 := IntWalk.i64_in _ (by unfold mid9 at k2; omega)
  have w3 : IntKind.i64.wrap (-D) = -D := IntWalk.i64_in _ (by unfold mid9 at k3; omega)
  have m1 : mid9 a1 := by rw [ha1]; unfold mid9 at *; split <;> omega
  have m3 : mid9 d1 := by rw [hd1]; unfold mid9 at *; split <;> omega
  have dp : 0 < d1 := by rw [hd1]; split <;> omega
  obtain ⟨p1, p2, p3, p4⟩ := line_facts n1 s1 m1 m3
  obtain ⟨q1, q2, q3, q4⟩ := line_facts n2 s2 m1 m3
  have G1 := segDivisor_any _ _ p4 q4
  have G2 := segDivisor_any _ _ (gcd_big p4 q4) (show big15 d1 by unfold mid9 at m3; unfold big15; omega)
  have gp := gcd_pos (x := gcdI (ax * d1 + a1 * ux) (ay * d1 + a1 * uy)) dp
  generalize gcdI (gcdI (ax * d1 + a1 * ux) (ay * d1 + a1 * uy)) d1 = g at *
  generalize gcdI (ax * d1 + a1 * ux) (ay * d1 + a1 * uy) = g1 at *
  have HS := Lib.hid (And.intro ha1 (And.intro hb1 (And.intro hd1 (And.intro hK1 (And.intro hd hK)))))
  have HG := Lib.hid (And.intro p1 (And.intro p2 (And.intro p3 (And.intro q1 (And.intro q2 q3)))))
  have hd0 : ¬ D = 0 := HS.out.2.2.2.2.1
  clear ha1 hb1 hd1 hK1 hK p1 p2 p3 p4 q1 q2 q3 q4 m1 m3 k1 k2 k3 hd
  go_enter Tryz.func115, Tryz.ntmps115
  go_upto_region 1 with fail
  go_cut [7, 8] from 7 to 25 (fun s7 s8 wx => ∃ b7 b8 : Nat, s7 = .pointer (some ⟨b7, 0, none⟩) ∧ s8 = .pointer (some ⟨b8, 0, none⟩) ∧ VarJ wx b7 (ux, uy) ∧ VarJ wx b8 (vx, vy) ∧ LaterOf (((w.alloc (.cells #[.int .i64 ax, .int .i64 ay, .int .i64 bx, .int .i64 by'] 27)).alloc (.cells #[.int .i64 cx, .int .i64 cy, .int .i64 dx, .int .i64 dy] 27)).alloc (.cells #[.int .i64 0, .int .i64 0, .int .i64 0, .int .i64 0, .int .i64 0, .int .i64 0, .int .i64 0, .int .i64 0] 98)) wx)
  case first =>
    go_region_held3 (fun w' => w'.cell? ⟨w.heap.size, 0, none⟩ = some (.int .i64 ax) ∧ w'.cell? ⟨w.heap.size, 1, none⟩ = some (.int .i64 ay) ∧ w'.cell? ⟨w.heap.size, 2, none⟩ = some (.int .i64 bx) ∧ w'.cell? ⟨w.heap.size, 3, none⟩ = some (.int .i64 by') ∧ w'.cell? ⟨w.heap.size + 1, 0, none⟩ = some (.int .i64 cx) ∧ w'.cell? ⟨w.heap.size + 1, 1, none⟩ = some (.int .i64 cy) ∧ w'.cell? ⟨w.heap.size + 1, 2, none⟩ = some (.int .i64 dx) ∧ w'.cell? ⟨w.heap.size + 1, 3, none⟩ = some (.int .i64 dy)) ((simp [go_sem, *]))
      (first | (go_at_call 43; (with_reducible refine (S1 _).calls.mono ?_); rintro e _ ⟨rfl, y1, rfl⟩; have sz_y1 := y1.size; (try simp only [World.size_alloc, World.size_setCell, World.size_drew] at sz_y1); (try (have na_y1_0 : ¬ w.heap.size = y1.wd.heap.size := by omega)); (try (have nb_y1_0 : ¬ y1.wd.heap.size = w.heap.size := by omega)); (try (have na_y1_1 : ¬ w.heap.size + 1 = y1.wd.heap.size := by omega)); (try (have nb_y1_1 : ¬ y1.wd.heap.size = w.heap.size + 1 := by omega))) | (go_at_call 43; (with_reducible refine (S2 _).calls.mono ?_); rintro e _ ⟨rfl, y2, rfl⟩; have sz_y2 := y2.size; (try simp only [World.size_alloc, World.size_setCell, World.size_drew] at sz_y2); (try (have na_y2_0 : ¬ w.heap.size = y2.wd.heap.size := by omega)); (try (have nb_y2_0 : ¬ y2.wd.heap.size = w.heap.size := by omega)); (try (have na_y2_1 : ¬ w.heap.size + 1 = y2.wd.heap.size := by omega)); (try (have nb_y2_1 : ¬ y2.wd.heap.size = w.heap.size + 1 := by omega))))
    all_goals
      go_wp2_with fail
      go_meet
      refine ⟨_, _, rfl, rfl, ?_, ?_, by (repeat (first | (with_reducible exact LaterOf.refl _) | (with_reducible refine LaterOf.alloc ?_ _) | (with_reducible refine LaterOf.drew ?_) | (with_reducible refine LaterOf.drewN ?_ _) | (with_reducible refine LaterOf.later ?_ _) | (with_reducible refine LaterOf.setCell ?_ (by first | exact Nat.le_refl _ | (simp; done) | omega | (simp; omega)) _)))⟩
      · (repeat (first
          | ((with_reducible refine VarJ.new1 _ _ _ _ _ ?_); (first | rfl | (simp; done) | omega | (simp; omega)))
          | (with_reducible refine VarJ.put (p := (0, 0)) ?_ _ _)
          | ((with_reducible refine VarJ.other ?_ ?_ _ _); rotate_left 1; (first | omega | (simp; omega)))
          | (with_reducible refine VarJ.allocd ?_ _)
          | (with_reducible refine VarJ.latr ?_ _)
          | (with_reducible refine VarJ.drewd ?_)))
      · (repeat (first
          | ((with_reducible refine VarJ.new1 _ _ _ _ _ ?_); (first | rfl | (simp; done) | omega | (simp; omega)))
          | (with_reducible refine VarJ.put (p := (0, 0)) ?_ _ _)
          | ((with_reducible refine VarJ.other ?_ ?_ _ _); rotate_left 1; (first | omega | (simp; omega)))
          | (with_reducible refine VarJ.allocd ?_ _)
          | (with_reducible refine VarJ.latr ?_ _)
          | (with_reducible refine VarJ.drewd ?_)))
  case rest =>
    obtain ⟨b7, b8, rfl, rfl, hv7, hv8, ⟨x2, rfl⟩⟩ := hcut
    have o7 : Nonempty (Old x2.wd b7) := ⟨⟨hv7.lt⟩⟩
    have o8 : Nonempty (Old x2.wd b8) := ⟨⟨hv8.lt⟩⟩
    have u0 := hv7.c0
    have u1 := hv7.c1
    have v0 := hv8.c0
    have v1 := hv8.c1
    simp only at u0 u1 v0 v1
    clear hv7 hv8
    go_wp2_with fail
    refine (S3 _).calls.mono ?_
    rintro e _ ⟨rfl, x3, rfl⟩
    go_wp2_with fail
    refine region_later (by kernel_rfl) (by kernel_rfl) ?_
    repeat (go_big_quiet_step ((first | (with_reducible refine Gives.later (C1 _)) | (with_reducible refine Gives.later (C2 _)))))
    refine wpQuiet_nil ?_
    rintro _ ⟨x4, rfl⟩
    go_upto_if 38 with fail
    go_cut [10, 11, 2] (fun s10 s11 s2 wx => s10 = .int .i64 a1 ∧ s11 = .int .i64 b1 ∧ s2 = .int .i64 d1 ∧ LaterOf x4.wd wx)
    case first =>
      clear G1 G2 C1 C2 S1 S2 S3
      by_cases hD : 0 < D
      · have hD2 : ¬ D < 0 := by omega
        go_wp2_with fail
        go_meet
        exact ⟨by rw [HS.out.1, if_pos hD], by rw [HS.out.2.1, if_pos hD], by rw [HS.out.2.2.1, if_pos hD], by (repeat (first | (with_reducible exact LaterOf.refl _) | (with_reducible refine LaterOf.alloc ?_ _) | (with_reducible refine LaterOf.drew ?_) | (with_reducible refine LaterOf.drewN ?_ _) | (with_reducible refine LaterOf.later ?_ _) | (with_reducible refine LaterOf.setCell ?_ (by first | exact Nat.le_refl _ | (simp; done) | omega | (simp; omega)) _)))⟩
      · have hD2 : D < 0 := by omega
        go_wp2_with fail
        go_meet
        exact ⟨by rw [HS.out.1, if_neg (show ¬ 0 < D by omega)], by rw [HS.out.2.1, if_neg (show ¬ 0 < D by omega)], by rw [HS.out.2.2.1, if_neg (show ¬ 0 < D by omega)], by (repeat (first | (with_reducible exact LaterOf.refl _) | (with_reducible refine LaterOf.alloc ?_ _) | (with_reducible refine LaterOf.drew ?_) | (with_reducible refine LaterOf.drewN ?_ _) | (with_reducible refine LaterOf.later ?_ _) | (with_reducible refine LaterOf.setCell ?_ (by first | exact Nat.le_refl _ | (simp; done) | omega | (simp; omega)) _)))⟩
    case rest =>
      obtain ⟨rfl, rfl, rfl, ⟨x5, rfl⟩⟩ := hcut
      have HK : K = kindL a1 b1 d1 := HS.out.2.2.2.1
      clear HS hd0 w1 w2 w3 C1 C2 S1 S2 S3
      have cs : (a1 < 0 ∨ d1 < a1 ∨ b1 < 0 ∨ d1 < b1) ∨ (¬ a1 < 0 ∧ ¬ d1 < a1 ∧ ¬ b1 < 0 ∧ ¬ d1 < b1) := by omega
      rcases cs with cs | ⟨h1, h2, h3, h4⟩
      · obtain rfl : K = 0 := by rw [HK]; unfold kindL; rw [if_pos cs]
        clear HK HG G1 G2
        have cs' : (a1 < 0) ∨ (¬ a1 < 0 ∧ d1 < a1) ∨ (¬ a1 < 0 ∧ ¬ d1 < a1 ∧ b1 < 0) ∨ (¬ a1 < 0 ∧ ¬ d1 < a1 ∧ ¬ b1 < 0 ∧ d1 < b1) := by omega
        clear cs
        rcases cs' with h1 | ⟨h1, h2⟩ | ⟨h1, h2, h3⟩ | ⟨h1, h2, h3, h4⟩
        all_goals
          go_wp2_with fail
          go_returns
          exact ⟨_, _, _, rfl, by (repeat (first | (with_reducible exact LaterOf.refl _) | (with_reducible refine LaterOf.alloc ?_ _) | (with_reducible refine LaterOf.drew ?_) | (with_reducible refine LaterOf.drewN ?_ _) | (with_reducible refine LaterOf.later ?_ _) | (with_reducible refine LaterOf.setCell ?_ (by first | exact Nat.le_refl _ | (simp; done) | omega | (simp; omega)) _)))⟩
      · have HK2 : K = (if a1 = 0 ∨ a1 = d1 ∨ b1 = 0 ∨ b1 = d1 then 1 else 2) := by rw [HK]; unfold kindL; rw [if_neg (by omega)]
        clear HK
        have HK := Lib.hid HK2
        clear HK2
        obtain ⟨p1, p2, p3, q1, q2, q3⟩ := HG.out
        obtain ⟨X, hX⟩ : ∃ X, X = ax * d1 + a1 * ux := ⟨_, rfl⟩
        obtain ⟨Y, hY⟩ : ∃ Y, Y = ay * d1 + a1 * uy := ⟨_, rfl⟩
        rw [← hX, ← hY] at G1
        replace p3 := p3.trans hX.symm
        replace q3 := q3.trans hY.symm
        clear hX hY
        clear HG
        go_wp2_with fail
        refine region_later (by kernel_rfl) (by kernel_rfl) ?_
        repeat (go_big_quiet_step (fail))
        refine wpQuiet_nil ?_
        rintro _ ⟨x6, rfl⟩
        clear p1 p2 p3 q1 q2 q3
        go_wp2_with fail
        refine (G1 _).calls.mono ?_
        rintro e _ ⟨rfl, x7, rfl⟩
        go_wp2_with fail
        refine (G2 _).calls.mono ?_
        rintro e _ ⟨rfl, x8, rfl⟩
        clear G1 G2
        go_wp2_with fail
        go_big_region
        have cs : ((a1 == 0) = true) ∨ ((a1 == 0) = false ∧ (a1 == d1) = true) ∨ ((a1 == 0) = false ∧ (a1 == d1) = false ∧ (b1 == 0) = true) ∨ ((a1 == 0) = false ∧ (a1 == d1) = false ∧ (b1 == 0) = false ∧ (b1 == d1) = true) ∨ ((a1 == 0) = false ∧ (a1 == d1) = false ∧ (b1 == 0) = false ∧ (b1 == d1) = false) := by
          simp only [beq_iff_eq, beq_eq_false_iff_ne, ne_eq]
          omega
        rcases cs with r1 | ⟨r1, r2⟩ | ⟨r1, r2, r3⟩ | ⟨r1, r2, r3, r4⟩ | ⟨r1, r2, r3, r4⟩
        · obtain rfl : K = 1 := by rw [HK.out, if_pos (.inl (by simpa using r1))]
          go_wp2_with fail
          go_returns
          exact ⟨_, _, _, rfl, by (repeat (first | (with_reducible exact LaterOf.refl _) | (with_reducible refine LaterOf.alloc ?_ _) | (with_reducible refine LaterOf.drew ?_) | (with_reducible refine LaterOf.drewN ?_ _) | (with_reducible refine LaterOf.later ?_ _) | (with_reducible refine LaterOf.setCell ?_ (by first | exact Nat.le_refl _ | (simp; done) | omega | (simp; omega)) _)))⟩
        · obtain rfl : K = 1 := by rw [HK.out, if_pos (.inr (.inl (by simpa using r2)))]
          go_wp2_with fail
          go_returns
          exact ⟨_, _, _, rfl, by (repeat (first | (with_reducible exact LaterOf.refl _) | (with_reducible refine LaterOf.alloc ?_ _) | (with_reducible refine LaterOf.drew ?_) | (with_reducible refine LaterOf.drewN ?_ _) | (with_reducible refine LaterOf.later ?_ _) | (with_reducible refine LaterOf.setCell ?_ (by first | exact Nat.le_refl _ | (simp; done) | omega | (simp; omega)) _)))⟩
        · obtain rfl : K = 1 := by rw [HK.out, if_pos (.inr (.inr (.inl (by simpa using r3))))]
          go_wp2_with fail
          go_returns
          exact ⟨_, _, _, rfl, by (repeat (first | (with_reducible exact LaterOf.refl _) | (with_reducible refine LaterOf.alloc ?_ _) | (with_reducible refine LaterOf.drew ?_) | (with_reducible refine LaterOf.drewN ?_ _) | (with_reducible refine LaterOf.later ?_ _) | (with_reducible refine LaterOf.setCell ?_ (by first | exact Nat.le_refl _ | (simp; done) | omega | (simp; omega)) _)))⟩
        · obtain rfl : K = 1 := by rw [HK.out, if_pos (.inr (.inr (.inr (by simpa using r4))))]
          go_wp2_with fail
          go_returns
          exact ⟨_, _, _, rfl, by (repeat (first | (with_reducible exact LaterOf.refl _) | (with_reducible refine LaterOf.alloc ?_ _) | (with_reducible refine LaterOf.drew ?_) | (with_reducible refine LaterOf.drewN ?_ _) | (with_reducible refine LaterOf.later ?_ _) | (with_reducible refine LaterOf.setCell ?_ (by first | exact Nat.le_refl _ | (simp; done) | omega | (simp; omega)) _)))⟩
        · obtain rfl : K = 2 := by
            rw [HK.out, if_neg]
            simp only [beq_eq_false_iff_ne, ne_eq] at r1 r2 r3 r4
            omega
          go_wp2_with fail
          go_returns
          exact ⟨_, _, _, rfl, by (repeat (first | (with_reducible exact LaterOf.refl _) | (with_reducible refine LaterOf.alloc ?_ _) | (with_reducible refine LaterOf.drew ?_) | (with_reducible refine LaterOf.drewN ?_ _) | (with_reducible refine LaterOf.later ?_ _) | (with_reducible refine LaterOf.setCell ?_ (by first | exact Nat.le_refl _ | (simp; done) | omega | (simp; omega)) _)))⟩
end Go.Proofs.YtkpnffokjpgalaaGreat
