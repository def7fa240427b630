/- Layer 46: are segments equal? The example; sameSegs. -/
import Derived.Test.YtkpnffokjpgalaaGreatKJnt30
namespace Go.Proofs.YtkpnffokjpgalaaGreat
set_option linter.unusedVariables false
set_option linter.unusedSimpArgs false
open Go.RowKit Go.Sort
attribute [local go_sem ↓] Go.wp_at_zero Go.wp_at_succ

/-- Are two segments one? -/
def eqs (a b c d e f g h : Int) : Bool := eqv a b e f && eqv c d g h
theorem eqs_iff {a b c d e f g h : Int} : eqs a b c d e f g h = true ↔ ((a = e ∧ b = f) ∧ c = g ∧ d = h) := by
  unfold eqs
  rw [Bool.and_eq_true, eqv_iff, eqv_iff]
theorem equalIn_vecJ (w : World) (n : Nat) (a b c d : Int) : (Op.equalIn (n + 2) 25 (vv a b) (vv c d)).run Tryz.prog w = .ok (a == c && b == d) w := by
  have u3 := Tryz.underlying3
  have a3 := Tryz.isAgg3
  have z3 := Tryz.sizeOf3
  have hS : Tryz.prog.underlying 25 = some (.struct (Tryz.prog.fieldsOf 25)) := by kernel_rfl
  have hp : Tryz.prog.stoodInHeld 25 = false := by kernel_rfl
  rw [run_equalIn_agg w (n + 1) 25 _ _ hS hp]
  simp only [Program.fieldsOf, Tryz.underlying25]
  go_simp
  by_cases h1 : a = c <;> by_cases h2 : b = d <;> simp [h1, h2]
theorem equalIn_segJ (w : World) (n : Nat) (a b c d e f g h : Int) : (Op.equalIn (n + 3) 27 (sg a b c d) (sg e f g h)).run Tryz.prog w = .ok (eqs a b c d e f g h) w := by
  have a4 := Tryz.isAgg25
  have z4 := Tryz.sizeOf25
  have hS : Tryz.prog.underlying 27 = some (.struct (Tryz.prog.fieldsOf 27)) := by kernel_rfl
  have hp : Tryz.prog.stoodInHeld 27 = false := by kernel_rfl
  have hv := fun w a b c d => equalIn_vecJ w n a b c d
  rw [run_equalIn_agg w (n + 2) 27 _ _ hS hp]
  simp only [Program.fieldsOf, Tryz.underlying27]
  generalize n + 2 = m at *
  unfold eqs eqv
  by_cases h1 : (a == e && b == f) = true
  · go_simp
    by_cases h3 : c = g <;> by_cases h4 : d = h <;> simp [h3, h4]
  · have h2 : (a == e && b == f) = false := Bool.eq_false_iff.2 h1
    go_simp
    (try simp [h2])
@[go_sem ↓] theorem eql_segJ (w : World) (a b c d e f g h : Int) : (binOp .eql 27 (sg a b c d) (sg e f g h)).run Tryz.prog w = .ok (.bool (eqs a b c d e f g h)) w := by
  rw [run_eql_struct, show (10000 : Nat) = 9997 + 3 from rfl, equalIn_segJ]; rfl
@[go_sem ↓] theorem neq_segJ (w : World) (a b c d e f g h : Int) : (binOp .neq 27 (sg a b c d) (sg e f g h)).run Tryz.prog w = .ok (.bool (!eqs a b c d e f g h)) w := by
  rw [run_neq_struct, show (10000 : Nat) = 9997 + 3 from rfl, equalIn_segJ]; rfl
@[go_sem ↓] theorem eqGuard_segJ (w : World) (op : BinOp) (x y : Operand) (a b c d e f g h : Int) : (eqGuard op 27 x y (sg a b c d) (sg e f g h)).run Tryz.prog w = .ok () w :=
  run_eqGuard_agg w op _ x y _ _ (by kernel_rfl)
set_option maxRecDepth 100000 in
set_option maxHeartbeats 4000000 in
theorem square_any (x y : Int) (hx : -1000 ≤ x ∧ x ≤ 1000) (hy : -1000 ≤ y ∧ y ≤ 1000) (w : World) : Calls Tryz.prog 32 #[.int .i64 x, .int .i64 y] w fun e w' => ∃ A, e = .returned (.slice A 4 4) ∧ IsVecs w' A 4 (sqR x y) ∧ SinceOf w w' := by
  have hrow : OwnVecs w.heap.size (w.alloc (.cells #[.int .i64 x, .int .i64 y, .int .i64 (x + 4), .int .i64 y, .int .i64 (x + 4), .int .i64 (y + 4), .int .i64 x, .int .i64 (y + 4)] 25)) (some ⟨w.heap.size, 0, none⟩) 4 (sqR x y) := World.ownsRow_lit w _ 4 (Nat.le_refl _) (by decide) rfl
  have HR := Lib.hid (hrow.isRow encV_len)
  clear hrow
  go_enter Tryz.func32, Tryz.ntmps32
  go_wp2_with fail
  go_returns
  exact ⟨_, rfl, HR.out, by (repeat (first | (with_reducible exact SinceOf.refl _) | (with_reducible assumption) | (with_reducible refine SinceOf.alloc ?_ _) | (with_reducible refine SinceOf.drew ?_) | (with_reducible refine SinceOf.drewN ?_ _) | (with_reducible refine SinceOf.later ?_ _) | (with_reducible refine SinceOf.further ?_ _) | (with_reducible refine SinceOf.setCell ?_ (by first | exact Nat.le_refl _ | (simp; done) | omega | (simp; omega)) _)))⟩
set_option maxRecDepth 100000 in
set_option maxHeartbeats 8000000 in
theorem sameSegs_any (A B : Option Addr) (c d : Nat) (a : List SegP) (w : World) (ha : IsSegs w A c a) (hb : IsSegs w B d a) (hl : a.length < 4611686018427387904) : Gives Tryz.prog 12 #[.slice A a.length c, .slice B a.length d] w (.bool true) := by
  apply Gives.ret
  have H := Lib.hid (And.intro ha hb)
  clear ha hb
  go_enter Tryz.func12, Tryz.ntmps12
  go_wp2_with fail
  go_loopg [5] a.length (fun gas s5 wr => ∃ i : Nat, i ≤ a.length ∧ a.length - i ≤ gas ∧ s5 = .int .i64 i ∧ LaterOf w wr)
  case atStart => exact ⟨0, by omega, by omega, rfl, by (repeat (first | (with_reducible exact LaterOf.refl _) | (with_reducible refine LaterOf.alloc ?_ _) | (with_reducible refine LaterOf.drew ?_) | (with_reducible refine LaterOf.drewN ?_ _) | (with_reducible refine LaterOf.later ?_ _) | (with_reducible refine LaterOf.setCell ?_ (by first | exact Nat.le_refl _ | (simp; done) | omega | (simp; omega)) _)))⟩
  case round =>
    obtain ⟨i, hi, hgas, rfl, ⟨z, rfl⟩⟩ := hrel
    by_cases hlt : i < a.length
    · have h1 := H.out.1.of (w' := z.wd) (by (repeat (first | (with_reducible exact SinceOf.refl _) | (with_reducible assumption) | (with_reducible refine SinceOf.alloc ?_ _) | (with_reducible refine SinceOf.drew ?_) | (with_reducible refine SinceOf.drewN ?_ _) | (with_reducible refine SinceOf.later ?_ _) | (with_reducible refine SinceOf.further ?_ _) | (with_reducible refine SinceOf.setCell ?_ (by first | exact Nat.le_refl _ | (simp; done) | omega | (simp; omega)) _))))
      have h2 := H.out.2.of (w' := z.wd) (by (repeat (first | (with_reducible exact SinceOf.refl _) | (with_reducible assumption) | (with_reducible refine SinceOf.alloc ?_ _) | (with_reducible refine SinceOf.drew ?_) | (with_reducible refine SinceOf.drewN ?_ _) | (with_reducible refine SinceOf.later ?_ _) | (with_reducible refine SinceOf.further ?_ _) | (with_reducible refine SinceOf.setCell ?_ (by first | exact Nat.le_refl _ | (simp; done) | omega | (simp; omega)) _))))
      obtain ⟨g, off, rfl, hr⟩ := h1.at_ (by omega)
      obtain ⟨g2, off2, rfl, hr2⟩ := h2.at_ (by omega)
      have hO := hr.there
      have hO2 := hr2.there
      have a0 := hr.e0 i hlt
      have a1 := hr.e1 i hlt
      have a2 := hr.e2 i hlt
      have a3 := hr.e3 i hlt
      have b0 := hr2.e0 i hlt
      have b1 := hr2.e1 i hlt
      have b2 := hr2.e2 i hlt
      have b3 := hr2.e3 i hlt
      generalize a[i].1.1 = xa at *
      generalize a[i].1.2 = xb at *
      generalize a[i].2.1 = xc at *
      generalize a[i].2.2 = xd at *
      have hq : eqs xa xb xc xd xa xb xc xd = true := eqs_iff.2 ⟨⟨rfl, rfl⟩, rfl, rfl⟩
      clear hr hr2 h1 h2
      go_wp2_with fail
      refine region_later (by kernel_rfl) (by kernel_rfl) ?_
      repeat (go_big_quiet_step (fail))
      refine wpQuiet_nil ?_
      rintro _ ⟨z4, rfl⟩
      go_wp2_with fail
      go_roundg (a.length - (i + 1))
      case measure => omega
      case rel => exact ⟨i + 1, hlt, Nat.le_refl _, by go_num, by (repeat (first | (with_reducible exact LaterOf.refl _) | (with_reducible refine LaterOf.alloc ?_ _) | (with_reducible refine LaterOf.drew ?_) | (with_reducible refine LaterOf.drewN ?_ _) | (with_reducible refine LaterOf.later ?_ _) | (with_reducible refine LaterOf.setCell ?_ (by first | exact Nat.le_refl _ | (simp; done) | omega | (simp; omega)) _)))⟩
    · obtain rfl : i = a.length := by omega
      go_wp2_with fail
      go_returns
      exact ⟨rfl, by (repeat (first | (with_reducible exact LaterOf.refl _) | (with_reducible refine LaterOf.alloc ?_ _) | (with_reducible refine LaterOf.drew ?_) | (with_reducible refine LaterOf.drewN ?_ _) | (with_reducible refine LaterOf.later ?_ _) | (with_reducible refine LaterOf.setCell ?_ (by first | exact Nat.le_refl _ | (simp; done) | omega | (simp; omega)) _)))⟩
theorem few_any (A : Option Addr) (c : Nat) (r : List (Int × Int)) (w : World) : Gives Tryz.prog 9 #[.slice A r.length c] w (.bool (decide (r.length ≤ 60))) := by
  apply Gives.ret
  obtain ⟨bb, hbb⟩ : ∃ b, b = decide (r.length ≤ 60) := ⟨_, rfl⟩
  have g1 : decide ((r.length : Int) ≤ 60) = bb := by rw [hbb, decide_eq_decide]; omega
  rw [← hbb]
  clear hbb
  go_enter Tryz.func9, Tryz.ntmps9
  go_wp2_with fail
  go_returns
  exact ⟨by first | rfl | simp [g1], by (repeat (first | (with_reducible exact LaterOf.refl _) | (with_reducible refine LaterOf.alloc ?_ _) | (with_reducible refine LaterOf.drew ?_) | (with_reducible refine LaterOf.drewN ?_ _) | (with_reducible refine LaterOf.later ?_ _) | (with_reducible refine LaterOf.setCell ?_ (by first | exact Nat.le_refl _ | (simp; done) | omega | (simp; omega)) _)))⟩
end Go.Proofs.YtkpnffokjpgalaaGreat
/- Layer 46: the example holds. -/
namespace Go.Proofs.YtkpnffokjpgalaaGreat
set_option linter.unusedVariables false
set_option linter.unusedSimpArgs false
open Go.RowKit Go.Sort
attribute [local go_sem ↓] Go.wp_at_zero Go.wp_at_succ

theorem isRow_two (W : World) (g : Nat) (x y : RgR) (hg : W.heap.size = g) : IsRow encG 1 (W.alloc (.cells #[.slice x.A x.xs.length x.c, .slice y.A y.xs.length y.c] 23)) (some ⟨g, 0, none⟩) 2 [x, y] := by
  subst hg
  have h : Owns encG 1 W.heap.size 23 (W.alloc (.cells #[.slice x.A x.xs.length x.c, .slice y.A y.xs.length y.c] 23)) (some ⟨W.heap.size, 0, none⟩) 2 [x, y] := World.ownsRow_lit W _ 2 (Nat.le_refl _) (by decide) rfl
  exact h.isRow encG_len
set_option maxRecDepth 100000 in
set_option maxHeartbeats 16000000 in
theorem awake46_any (w : World) : Yields Tryz.prog 8 #[] w (.bool true) := by
  apply Yields.ret
  have Q1 := square_any 0 0 (by omega) (by omega)
  have Q2 := square_any 4 0 (by omega) (by omega)
  go_enter Tryz.func8, Tryz.ntmps8
  go_wp2_with fail
  refine (Q1 _).mono ?_
  rintro e _ ⟨A, rfl, hA, ⟨x1, rfl⟩⟩
  go_wp2_with fail
  refine (Q2 _).mono ?_
  rintro e _ ⟨B, rfl, hB, ⟨x2, rfl⟩⟩
  have HV := Lib.hid (And.intro hA hB)
  have GP := fun W (hW : SinceOf x1.wd W) => gaps_any A 4 (sqR 0 0) 1 W (hA.of hW) (by decide)
  rw [aw_gaps] at GP
  unfold GapsE at GP
  change ∀ W, SinceOf x1.wd W → Calls _ _ #[.slice A 4 4, _] W _ at GP
  clear hA hB Q1 Q2
  go_wp2_with fail
  refine (GP _ (by (repeat (first | (with_reducible exact SinceOf.refl _) | (with_reducible assumption) | (with_reducible refine SinceOf.alloc ?_ _) | (with_reducible refine SinceOf.drew ?_) | (with_reducible refine SinceOf.drewN ?_ _) | (with_reducible refine SinceOf.later ?_ _) | (with_reducible refine SinceOf.further ?_ _) | (with_reducible refine SinceOf.setCell ?_ (by first | exact Nat.le_refl _ | (simp; done) | omega | (simp; omega)) _))))).mono ?_
  rintro e _ ⟨C, cC, rfl, hC, -, ⟨x3, rfl⟩⟩
  have HC := Lib.hid (hC.isRow encE_len)
  clear GP hC
  have OC : ∀ W : World, SinceOf x3.wd W → ∀ g, W.heap.size = g → Calls Tryz.prog 16 #[.slice (some ⟨g, 0, none⟩) 2 2] (W.alloc (.cells #[.slice A 4 4, .slice B 4 4] 23)) fun e w' => ∃ A' c', e = .returned (.tuple #[.slice A' 7 c', .int .i64 0]) ∧ IsSegs w' A' c' (onceR [sqR 0 0, sqR 4 0]).1 ∧ SinceOf (W.alloc (.cells #[.slice A 4 4, .slice B 4 4] 23)) w' := fun W hW g hg => by
    have hr := isRow_two W g ⟨A, 4, sqR 0 0⟩ ⟨B, 4, sqR 4 0⟩ hg
    have hall : IsRings (W.alloc (.cells #[.slice A 4 4, .slice B 4 4] 23)) (some ⟨g, 0, none⟩) 2 [⟨A, 4, sqR 0 0⟩, ⟨B, 4, sqR 4 0⟩] := ⟨hr, fun x hx => by
      simp only [List.mem_cons, List.not_mem_nil, or_false] at hx
      have h1 : SinceOf x2.wd W := SinceOf.trans ⟨x3, rfl⟩ hW
      have h0 : SinceOf x1.wd W := SinceOf.trans ⟨x2, rfl⟩ h1
      rcases hx with rfl | rfl
      · exact ⟨(HV.out.1.of h0).of ((SinceOf.refl _).alloc _), by show 4 < _; omega, by show 4 ≤ 4; omega⟩
      · exact ⟨(HV.out.2.of h1).of ((SinceOf.refl _).alloc _), by show 4 < _; omega, by show 4 ≤ 4; omega⟩, by show 2 < _; omega⟩
    have := once_any _ _ _ _ hall
    refine this.mono ?_
    rintro e w' ⟨A', c', rfl, ho, -, hs⟩
    rw [show vxs [⟨A, 4, sqR 0 0⟩, ⟨B, 4, sqR 4 0⟩] = [sqR 0 0, sqR 4 0] from rfl, aw_once.1, aw_once.2.1]
    exact ⟨A', c', rfl, ho.isRow encE_len, hs⟩
  go_wp2_with fail
  refine (OC _ (by (repeat (first | (with_reducible exact SinceOf.refl _) | (with_reducible assumption) | (with_reducible refine SinceOf.alloc ?_ _) | (with_reducible refine SinceOf.drew ?_) | (with_reducible refine SinceOf.drewN ?_ _) | (with_reducible refine SinceOf.later ?_ _) | (with_reducible refine SinceOf.further ?_ _) | (with_reducible refine SinceOf.setCell ?_ (by first | exact Nat.le_refl _ | (simp; done) | omega | (simp; omega)) _)))) _ (by first | rfl | simp)).mono ?_
  rintro e _ ⟨D, cD, rfl, hD, ⟨x4, rfl⟩⟩
  have hrow := HC.out.of (w' := x4.wd) (by (repeat (first | (with_reducible exact SinceOf.refl _) | (with_reducible assumption) | (with_reducible refine SinceOf.alloc ?_ _) | (with_reducible refine SinceOf.drew ?_) | (with_reducible refine SinceOf.drewN ?_ _) | (with_reducible refine SinceOf.later ?_ _) | (with_reducible refine SinceOf.further ?_ _) | (with_reducible refine SinceOf.setCell ?_ (by first | exact Nat.le_refl _ | (simp; done) | omega | (simp; omega)) _))))
  obtain ⟨g, off, rfl, hr⟩ := hrow.at_ (by simp)
  have hO := hr.there
  have a0 := hr.e0 0 (by simp)
  have a1 := hr.e1 0 (by simp)
  have a2 := hr.e2 0 (by simp)
  have a3 := hr.e3 0 (by simp)
  simp at a0 a1 a2 a3
  have LN := fun W (hW : SinceOf x4.wd W) => length_any D cD _ W (hD.of hW) (by rw [aw_once.1]; omega)
  rw [aw_once.1, aw_once.2.2] at LN
  have ST := steps_any ((1, 0), (2, 0))
  rw [aw_steps] at ST
  change ∀ w, Gives _ _ #[sg 1 0 2 0] w _ at ST
  have SH := fun W (hW : SinceOf x4.wd W) => share_any A B 4 4 (sqR 0 0) (sqR 4 0) W (HV.out.1.of (SinceOf.trans (show SinceOf x1.wd x4.wd by (repeat (first | (with_reducible exact SinceOf.refl _) | (with_reducible assumption) | (with_reducible refine SinceOf.alloc ?_ _) | (with_reducible refine SinceOf.drew ?_) | (with_reducible refine SinceOf.drewN ?_ _) | (with_reducible refine SinceOf.later ?_ _) | (with_reducible refine SinceOf.further ?_ _) | (with_reducible refine SinceOf.setCell ?_ (by first | exact Nat.le_refl _ | (simp; done) | omega | (simp; omega)) _)))) hW)) (HV.out.2.of (SinceOf.trans (show SinceOf x2.wd x4.wd by (repeat (first | (with_reducible exact SinceOf.refl _) | (with_reducible assumption) | (with_reducible refine SinceOf.alloc ?_ _) | (with_reducible refine SinceOf.drew ?_) | (with_reducible refine SinceOf.drewN ?_ _) | (with_reducible refine SinceOf.later ?_ _) | (with_reducible refine SinceOf.further ?_ _) | (with_reducible refine SinceOf.setCell ?_ (by first | exact Nat.le_refl _ | (simp; done) | omega | (simp; omega)) _)))) hW)) (by decide) (by decide)
  rw [aw_share] at SH
  change ∀ W, SinceOf x4.wd W → Calls _ _ #[.slice A 4 4, .slice B 4 4] W _ at SH
  have hq : eqs 1 0 2 0 1 0 2 0 = true := by decide
  clear hr hrow hD OC
  go_wp2_with fail
  refine (LN _ (by (repeat (first | (with_reducible exact SinceOf.refl _) | (with_reducible assumption) | (with_reducible refine SinceOf.alloc ?_ _) | (with_reducible refine SinceOf.drew ?_) | (with_reducible refine SinceOf.drewN ?_ _) | (with_reducible refine SinceOf.later ?_ _) | (with_reducible refine SinceOf.further ?_ _) | (with_reducible refine SinceOf.setCell ?_ (by first | exact Nat.le_refl _ | (simp; done) | omega | (simp; omega)) _))))).calls.mono ?_
  rintro e _ ⟨rfl, x5, rfl⟩
  go_wp2_with fail
  refine (ST _).calls.mono ?_
  rintro e _ ⟨rfl, x6, rfl⟩
  go_wp2_with fail
  refine (SH _ (by (repeat (first | (with_reducible exact SinceOf.refl _) | (with_reducible assumption) | (with_reducible refine SinceOf.alloc ?_ _) | (with_reducible refine SinceOf.drew ?_) | (with_reducible refine SinceOf.drewN ?_ _) | (with_reducible refine SinceOf.later ?_ _) | (with_reducible refine SinceOf.further ?_ _) | (with_reducible refine SinceOf.setCell ?_ (by first | exact Nat.le_refl _ | (simp; done) | omega | (simp; omega)) _))))).mono ?_
  rintro e _ ⟨F, cF, rfl, -, -, ⟨x7, rfl⟩⟩
  go_wp2_with fail
  go_returns
  exact ⟨rfl, by (repeat (first | (with_reducible exact SinceOf.refl _) | (with_reducible assumption) | (with_reducible refine SinceOf.alloc ?_ _) | (with_reducible refine SinceOf.drew ?_) | (with_reducible refine SinceOf.drewN ?_ _) | (with_reducible refine SinceOf.later ?_ _) | (with_reducible refine SinceOf.further ?_ _) | (with_reducible refine SinceOf.setCell ?_ (by first | exact Nat.le_refl _ | (simp; done) | omega | (simp; omega)) _)))⟩
end Go.Proofs.YtkpnffokjpgalaaGreat
/- The law JointGaps, walked. -/
namespace Go.Proofs.YtkpnffokjpgalaaGreat
set_option linter.unusedVariables false
set_option linter.unusedSimpArgs false
open Go.RowKit Go.Sort
attribute [local go_sem ↓] Go.wp_at_zero Go.wp_at_succ

set_option maxRecDepth 100000 in
set_option maxHeartbeats 16000000 in
theorem jointGaps_any (A : Option Addr) (c : Nat) (r : List (Int × Int)) (n xa xb xc xd : Int) (w : World) (h : IsVecs w A c r) (hlen : r.length < 4611686018427387904) :
    Yields Tryz.prog 3 #[.slice A r.length c, .int .i64 n, sg xa xb xc xd] w (.bool true) := by
  apply Yields.ret
  have AW := awake46_any
  have FW := few_any A c r
  have GP := fun W (hW : SinceOf w W) => gaps_any A c r n W (h.of hW) hlen
  have GR := fun W (hW : SinceOf w W) => refGaps_any A c r n W (h.of hW) hlen
  have S1 := steps_any ((xa, xb), (xc, xd))
  have S2 := refSteps_any ((xa, xb), (xc, xd))
  change ∀ w, Gives _ _ #[sg xa xb xc xd] w _ at S1
  change ∀ w, Gives _ _ #[sg xa xb xc xd] w _ at S2
  generalize stepsI ((xa, xb), (xc, xd)) = sv at S1 S2
  generalize decide (r.length ≤ 60) = fw at FW
  generalize gapsR r n = res at GP GR
  clear h
  go_enter Tryz.func3, Tryz.ntmps3
  go_wp2_with fail
  refine (AW _).calls.mono ?_
  rintro e _ ⟨rfl, x1, rfl⟩
  clear AW
  go_wp2_with fail
  refine (FW _).calls.mono ?_
  rintro e _ ⟨rfl, x2, rfl⟩
  clear FW
  cases fw
  · go_wp2_with fail
    go_returns
    exact ⟨rfl, by (repeat (first | (with_reducible exact SinceOf.refl _) | (with_reducible assumption) | (with_reducible refine SinceOf.alloc ?_ _) | (with_reducible refine SinceOf.drew ?_) | (with_reducible refine SinceOf.drewN ?_ _) | (with_reducible refine SinceOf.later ?_ _) | (with_reducible refine SinceOf.further ?_ _) | (with_reducible refine SinceOf.setCell ?_ (by first | exact Nat.le_refl _ | (simp; done) | omega | (simp; omega)) _)))⟩
  · go_wp2_with fail
    refine (GP _ (by (repeat (first | (with_reducible exact SinceOf.refl _) | (with_reducible assumption) | (with_reducible refine SinceOf.alloc ?_ _) | (with_reducible refine SinceOf.drew ?_) | (with_reducible refine SinceOf.drewN ?_ _) | (with_reducible refine SinceOf.later ?_ _) | (with_reducible refine SinceOf.further ?_ _) | (with_reducible refine SinceOf.setCell ?_ (by first | exact Nat.le_refl _ | (simp; done) | omega | (simp; omega)) _))))).mono ?_
    rintro e _ ⟨A1, c1, rfl, o1, l1, ⟨x3, rfl⟩⟩
    have H1 := Lib.hid o1
    clear o1 GP
    go_wp2_with fail
    refine (GR _ (by (repeat (first | (with_reducible exact SinceOf.refl _) | (with_reducible assumption) | (with_reducible refine SinceOf.alloc ?_ _) | (with_reducible refine SinceOf.drew ?_) | (with_reducible refine SinceOf.drewN ?_ _) | (with_reducible refine SinceOf.later ?_ _) | (with_reducible refine SinceOf.further ?_ _) | (with_reducible refine SinceOf.setCell ?_ (by first | exact Nat.le_refl _ | (simp; done) | omega | (simp; omega)) _))))).mono ?_
    rintro e _ ⟨A2, c2, rfl, o2, l2, ⟨x4, rfl⟩⟩
    have H2 := Lib.hid o2
    clear o2 GR
    have SS := fun W (hW : SinceOf x4.wd W) => sameSegs_any A1 A2 c1 c2 res.1 W ((H1.out.isRow encE_len).of (SinceOf.trans (show SinceOf x3.wd x4.wd by (repeat (first | (with_reducible exact SinceOf.refl _) | (with_reducible assumption) | (with_reducible refine SinceOf.alloc ?_ _) | (with_reducible refine SinceOf.drew ?_) | (with_reducible refine SinceOf.drewN ?_ _) | (with_reducible refine SinceOf.later ?_ _) | (with_reducible refine SinceOf.further ?_ _) | (with_reducible refine SinceOf.setCell ?_ (by first | exact Nat.le_refl _ | (simp; done) | omega | (simp; omega)) _)))) hW)) ((H2.out.isRow encE_len).of hW) (by omega)
    go_wp2_with fail
    refine region_later (by kernel_rfl) (by kernel_rfl) ?_
    repeat (go_big_quiet_step ((first | (with_reducible refine Gives.later (S1 _)) | (with_reducible refine Gives.later (S2 _)) | (with_reducible refine Gives.later (SS _ (by (repeat (first | (with_reducible exact SinceOf.refl _) | (with_reducible assumption) | (with_reducible refine SinceOf.alloc ?_ _) | (with_reducible refine SinceOf.drew ?_) | (with_reducible refine SinceOf.drewN ?_ _) | (with_reducible refine SinceOf.later ?_ _) | (with_reducible refine SinceOf.further ?_ _) | (with_reducible refine SinceOf.setCell ?_ (by first | exact Nat.le_refl _ | (simp; done) | omega | (simp; omega)) _)))))))))
    refine wpQuiet_nil ?_
    rintro _ ⟨z2, rfl⟩
    go_wp2_with fail
    go_returns
    exact ⟨rfl, by (repeat (first | (with_reducible exact SinceOf.refl _) | (with_reducible assumption) | (with_reducible refine SinceOf.alloc ?_ _) | (with_reducible refine SinceOf.drew ?_) | (with_reducible refine SinceOf.drewN ?_ _) | (with_reducible refine SinceOf.later ?_ _) | (with_reducible refine SinceOf.further ?_ _) | (with_reducible refine SinceOf.setCell ?_ (by first | exact Nat.le_refl _ | (simp; done) | omega | (simp; omega)) _)))⟩
end Go.Proofs.YtkpnffokjpgalaaGreat
