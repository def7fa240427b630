/- Layer 46: are segments equal? The example; sameSegs. -/
import Derived.Test.YtkpnffokjpgalaaKJntQ5
namespace Go.Proofs.Ytkpnffokjpgalaa
set_option linter.unusedVariables false
set_option linter.unusedSimpArgs false
open Go.RowKit Go.Sort
attribute [local go_sem ↓] Go.wp_at_zero Go.wp_at_succ

/-- Are two segments one? -/
def eqs (a b c d e f g h : Int) : Bool := eqv a b e f && eqv c d g h
theorem eqs_iff {a b c d e f g h : Int} : eqs a b c d e f g h = true ↔ ((a = e ∧ b = f) ∧ c = g ∧ d = h) := by
  unfold eqs
  rw [Bool.and_eq_true, eqv_iff, eqv_iff]
theorem equalIn_vecJ (w : World) (n : Nat) (a b c d : Int) : (Op.equalIn (n + 2) 37 (vv a b) (vv c d)).run Try.prog w = .ok (a == c && b == d) w := by
  have u3 := Try.underlying3
  have a3 := Try.isAgg3
  have z3 := Try.sizeOf3
  have hS : Try.prog.underlying 37 = some (.struct (Try.prog.fieldsOf 37)) := by kernel_rfl
  have hp : Try.prog.stoodInHeld 37 = false := by kernel_rfl
  rw [run_equalIn_agg w (n + 1) 37 _ _ hS hp]
  simp only [Program.fieldsOf, Try.underlying37]
  go_simp
  by_cases h1 : a = c <;> by_cases h2 : b = d <;> simp [h1, h2]
theorem equalIn_segJ (w : World) (n : Nat) (a b c d e f g h : Int) : (Op.equalIn (n + 3) 39 (sg a b c d) (sg e f g h)).run Try.prog w = .ok (eqs a b c d e f g h) w := by
  have a4 := Try.isAgg37
  have z4 := Try.sizeOf37
  have hS : Try.prog.underlying 39 = some (.struct (Try.prog.fieldsOf 39)) := by kernel_rfl
  have hp : Try.prog.stoodInHeld 39 = false := by kernel_rfl
  have hv := fun w a b c d => equalIn_vecJ w n a b c d
  rw [run_equalIn_agg w (n + 2) 39 _ _ hS hp]
  simp only [Program.fieldsOf, Try.underlying39]
  generalize n + 2 = m at *
  unfold eqs eqv
  by_cases h1 : (a == e && b == f) = true
  · go_simp
    by_cases h3 : c = g <;> by_cases h4 : d = h <;> simp [h3, h4]
  · have h2 : (a == e && b == f) = false := Bool.eq_false_iff.2 h1
    go_simp
    (try simp [h2])
@[go_sem ↓] theorem eql_segJ (w : World) (a b c d e f g h : Int) : (binOp .eql 39 (sg a b c d) (sg e f g h)).run Try.prog w = .ok (.bool (eqs a b c d e f g h)) w := by
  rw [run_eql_struct, show (10000 : Nat) = 9997 + 3 from rfl, equalIn_segJ]; rfl
@[go_sem ↓] theorem neq_segJ (w : World) (a b c d e f g h : Int) : (binOp .neq 39 (sg a b c d) (sg e f g h)).run Try.prog w = .ok (.bool (!eqs a b c d e f g h)) w := by
  rw [run_neq_struct, show (10000 : Nat) = 9997 + 3 from rfl, equalIn_segJ]; rfl
@[go_sem ↓] theorem eqGuard_segJ (w : World) (op : BinOp) (x y : Operand) (a b c d e f g h : Int) : (eqGuard op 39 x y (sg a b c d) (sg e f g h)).run Try.prog w = .ok () w :=
  run_eqGuard_agg w op _ x y _ _ (by kernel_rfl)
set_option maxRecDepth 100000 in
set_option maxHeartbeats 4000000 in
theorem square_any (x y : Int) (hx : -1000 ≤ x ∧ x ≤ 1000) (hy : -1000 ≤ y ∧ y ≤ 1000) (w : World) : Calls Try.prog 10 #[.int .i64 x, .int .i64 y] w fun e w' => ∃ A, e = .returned (.slice A 4 4) ∧ IsVecs w' A 4 (sqR x y) ∧ SinceOf w w' := by
  have hrow : OwnVecs w.heap.size (w.alloc (.cells #[.int .i64 x, .int .i64 y, .int .i64 (x + 4), .int .i64 y, .int .i64 (x + 4), .int .i64 (y + 4), .int .i64 x, .int .i64 (y + 4)] 37)) (some ⟨w.heap.size, 0, none⟩) 4 (sqR x y) := World.ownsRow_lit w _ 4 (Nat.le_refl _) (by decide) rfl
  have HR := Lib.hid (hrow.isRow encV_len)
  clear hrow
  go_enter Try.func10, Try.ntmps10
  go_wp2_with fail
  go_returns
  exact ⟨_, rfl, HR.out, by (repeat (first | (with_reducible exact SinceOf.refl _) | (with_reducible assumption) | (with_reducible refine SinceOf.alloc ?_ _) | (with_reducible refine SinceOf.drew ?_) | (with_reducible refine SinceOf.drewN ?_ _) | (with_reducible refine SinceOf.later ?_ _) | (with_reducible refine SinceOf.further ?_ _) | (with_reducible refine SinceOf.setCell ?_ (by first | exact Nat.le_refl _ | (simp; done) | omega | (simp; omega)) _)))⟩
theorem few_any (A : Option Addr) (c : Nat) (r : List (Int × Int)) (w : World) : Gives Try.prog 13 #[.slice A r.length c] w (.bool (decide (r.length ≤ 60))) := by
  apply Gives.ret
  obtain ⟨bb, hbb⟩ : ∃ b, b = decide (r.length ≤ 60) := ⟨_, rfl⟩
  have g1 : decide ((r.length : Int) ≤ 60) = bb := by rw [hbb, decide_eq_decide]; omega
  rw [← hbb]
  clear hbb
  go_enter Try.func13, Try.ntmps13
  go_wp2_with fail
  go_returns
  exact ⟨by first | rfl | simp [g1], by (repeat (first | (with_reducible exact LaterOf.refl _) | (with_reducible refine LaterOf.alloc ?_ _) | (with_reducible refine LaterOf.drew ?_) | (with_reducible refine LaterOf.drewN ?_ _) | (with_reducible refine LaterOf.later ?_ _) | (with_reducible refine LaterOf.setCell ?_ (by first | exact Nat.le_refl _ | (simp; done) | omega | (simp; omega)) _)))⟩
end Go.Proofs.Ytkpnffokjpgalaa
/- Layer 46: the example holds. -/
namespace Go.Proofs.Ytkpnffokjpgalaa
set_option linter.unusedVariables false
set_option linter.unusedSimpArgs false
open Go.RowKit Go.Sort
attribute [local go_sem ↓] Go.wp_at_zero Go.wp_at_succ

theorem isRow_two (W : World) (g : Nat) (x y : RgR) (hg : W.heap.size = g) : IsRow encG 1 (W.alloc (.cells #[.slice x.A x.xs.length x.c, .slice y.A y.xs.length y.c] 26)) (some ⟨g, 0, none⟩) 2 [x, y] := by
  subst hg
  have h : Owns encG 1 W.heap.size 26 (W.alloc (.cells #[.slice x.A x.xs.length x.c, .slice y.A y.xs.length y.c] 26)) (some ⟨W.heap.size, 0, none⟩) 2 [x, y] := World.ownsRow_lit W _ 2 (Nat.le_refl _) (by decide) rfl
  exact h.isRow encG_len
set_option maxRecDepth 100000 in
set_option maxHeartbeats 16000000 in
theorem awake46_any (w : World) : Yields Try.prog 4 #[] w (.bool true) := by
  apply Yields.ret
  have Q1 := square_any 0 0 (by omega) (by omega)
  have Q2 := square_any 4 0 (by omega) (by omega)
  go_enter Try.func4, Try.ntmps4
  go_wp2_with fail
  refine (Q1 _).mono ?_
  rintro e _ ⟨A, rfl, hA, ⟨x1, rfl⟩⟩
  go_wp2_with fail
  refine (Q2 _).mono ?_
  rintro e _ ⟨B, rfl, hB, ⟨x2, rfl⟩⟩
  have HV := Lib.hid (And.intro hA hB)
  have GP := fun W (hW : SinceOf x1.wd W) => gaps_any A 4 (sqR 0 0) 1 W (hA.of hW) (by decide)
  rw [aw_gaps] at GP
  unfold GapsE at GP
  change ∀ W, SinceOf x1.wd W → Calls _ _ #[.slice A 4 4, _] W _ at GP
  clear hA hB Q1 Q2
  go_wp2_with fail
  refine (GP _ (by (repeat (first | (with_reducible exact SinceOf.refl _) | (with_reducible assumption) | (with_reducible refine SinceOf.alloc ?_ _) | (with_reducible refine SinceOf.drew ?_) | (with_reducible refine SinceOf.drewN ?_ _) | (with_reducible refine SinceOf.later ?_ _) | (with_reducible refine SinceOf.further ?_ _) | (with_reducible refine SinceOf.setCell ?_ (by first | exact Nat.le_refl _ | (simp; done) | omega | (simp; omega)) _))))).mono ?_
  rintro e _ ⟨C, cC, rfl, hC, -, ⟨x3, rfl⟩⟩
  have HC := Lib.hid (hC.isRow encE_len)
  clear GP hC
  have OC : ∀ W : World, SinceOf x3.wd W → ∀ g, W.heap.size = g → Calls Try.prog 6 #[.slice (some ⟨g, 0, none⟩) 2 2] (W.alloc (.cells #[.slice A 4 4, .slice B 4 4] 26)) fun e w' => ∃ A' c', e = .returned (.tuple #[.slice A' 7 c', .int .i64 0]) ∧ IsSegs w' A' c' (onceR [sqR 0 0, sqR 4 0]).1 ∧ SinceOf (W.alloc (.cells #[.slice A 4 4, .slice B 4 4] 26)) w' := fun W hW g hg => by
    have hr := isRow_two W g ⟨A, 4, sqR 0 0⟩ ⟨B, 4, sqR 4 0⟩ hg
    have hall : IsRings (W.alloc (.cells #[.slice A 4 4, .slice B 4 4] 26)) (some ⟨g, 0, none⟩) 2 [⟨A, 4, sqR 0 0⟩, ⟨B, 4, sqR 4 0⟩] := ⟨hr, fun x hx => by
      simp only [List.mem_cons, List.not_mem_nil, or_false] at hx
      have h1 : SinceOf x2.wd W := SinceOf.trans ⟨x3, rfl⟩ hW
      have h0 : SinceOf x1.wd W := SinceOf.trans ⟨x2, rfl⟩ h1
      rcases hx with rfl | rfl
      · exact ⟨(HV.out.1.of h0).of ((SinceOf.refl _).alloc _), by show 4 < _; omega, by show 4 ≤ 4; omega⟩
      · exact ⟨(HV.out.2.of h1).of ((SinceOf.refl _).alloc _), by show 4 < _; omega, by show 4 ≤ 4; omega⟩, by show 2 < _; omega⟩
    have := once_any _ _ _ _ hall
    refine this.mono ?_
    rintro e w' ⟨A', c', rfl, ho, -, hs⟩
    rw [show vxs [⟨A, 4, sqR 0 0⟩, ⟨B, 4, sqR 4 0⟩] = [sqR 0 0, sqR 4 0] from rfl, aw_once.1, aw_once.2.1]
    exact ⟨A', c', rfl, ho.isRow encE_len, hs⟩
  go_wp2_with fail
  refine (OC _ (by (repeat (first | (with_reducible exact SinceOf.refl _) | (with_reducible assumption) | (with_reducible refine SinceOf.alloc ?_ _) | (with_reducible refine SinceOf.drew ?_) | (with_reducible refine SinceOf.drewN ?_ _) | (with_reducible refine SinceOf.later ?_ _) | (with_reducible refine SinceOf.further ?_ _) | (with_reducible refine SinceOf.setCell ?_ (by first | exact Nat.le_refl _ | (simp; done) | omega | (simp; omega)) _)))) _ (by first | rfl | simp)).mono ?_
  rintro e _ ⟨D, cD, rfl, hD, ⟨x4, rfl⟩⟩
  have hrow := HC.out.of (w' := x4.wd) (by (repeat (first | (with_reducible exact SinceOf.refl _) | (with_reducible assumption) | (with_reducible refine SinceOf.alloc ?_ _) | (with_reducible refine SinceOf.drew ?_) | (with_reducible refine SinceOf.drewN ?_ _) | (with_reducible refine SinceOf.later ?_ _) | (with_reducible refine SinceOf.further ?_ _) | (with_reducible refine SinceOf.setCell ?_ (by first | exact Nat.le_refl _ | (simp; done) | omega | (simp; omega)) _))))
  obtain ⟨g, off, rfl, hr⟩ := hrow.at_ (by simp)
  have hO := hr.there
  have a0 := hr.e0 0 (by simp)
  have a1 := hr.e1 0 (by simp)
  have a2 := hr.e2 0 (by simp)
  have a3 := hr.e3 0 (by simp)
  simp at a0 a1 a2 a3
  have LN := fun W (hW : SinceOf x4.wd W) => length_any D cD _ W (hD.of hW) (by rw [aw_once.1]; omega)
  rw [aw_once.1, aw_once.2.2] at LN
  have ST := steps_any ((1, 0), (2, 0))
  rw [aw_steps] at ST
  change ∀ w, Gives _ _ #[sg 1 0 2 0] w _ at ST
  have SH := fun W (hW : SinceOf x4.wd W) => share_any A B 4 4 (sqR 0 0) (sqR 4 0) W (HV.out.1.of (SinceOf.trans (show SinceOf x1.wd x4.wd by (repeat (first | (with_reducible exact SinceOf.refl _) | (with_reducible assumption) | (with_reducible refine SinceOf.alloc ?_ _) | (with_reducible refine SinceOf.drew ?_) | (with_reducible refine SinceOf.drewN ?_ _) | (with_reducible refine SinceOf.later ?_ _) | (with_reducible refine SinceOf.further ?_ _) | (with_reducible refine SinceOf.setCell ?_ (by first | exact Nat.le_refl _ | (simp; done) | omega | (simp; omega)) _)))) hW)) (HV.out.2.of (SinceOf.trans (show SinceOf x2.wd x4.wd by (repeat (first | (with_reducible exact SinceOf.refl _) | (with_reducible assumption) | (with_reducible refine SinceOf.alloc ?_ _) | (with_reducible refine SinceOf.drew ?_) | (with_reducible refine SinceOf.drewN ?_ _) | (with_reducible refine SinceOf.later ?_ _) | (with_reducible refine SinceOf.further ?_ _) | (with_reducible refine SinceOf.setCell ?_ (by first | exact Nat.le_refl _ | (simp; done) | omega | (simp; omega)) _)))) hW)) (by decide) (by decide)
  rw [aw_share] at SH
  change ∀ W, SinceOf x4.wd W → Calls _ _ #[.slice A 4 4, .slice B 4 4] W _ at SH
  have hq : eqs 1 0 2 0 1 0 2 0 = true := by decide
  clear hr hrow hD OC
  go_wp2_with fail
  refine (LN _ (by (repeat (first | (with_reducible exact SinceOf.refl _) | (with_reducible assumption) | (with_reducible refine SinceOf.alloc ?_ _) | (with_reducible refine SinceOf.drew ?_) | (with_reducible refine SinceOf.drewN ?_ _) | (with_reducible refine SinceOf.later ?_ _) | (with_reducible refine SinceOf.further ?_ _) | (with_reducible refine SinceOf.setCell ?_ (by first | exact Nat.le_refl _ | (simp; done) | omega | (simp; omega)) _))))).calls.mono ?_
  rintro e _ ⟨rfl, x5, rfl⟩
  go_wp2_with fail
  refine (ST _).calls.mono ?_
  rintro e _ ⟨rfl, x6, rfl⟩
  go_wp2_with fail
  refine (SH _ (by (repeat (first | (with_reducible exact SinceOf.refl _) | (with_reducible assumption) | (with_reducible refine SinceOf.alloc ?_ _) | (with_reducible refine SinceOf.drew ?_) | (with_reducible refine SinceOf.drewN ?_ _) | (with_reducible refine SinceOf.later ?_ _) | (with_reducible refine SinceOf.further ?_ _) | (with_reducible refine SinceOf.setCell ?_ (by first | exact Nat.le_refl _ | (simp; done) | omega | (simp; omega)) _))))).mono ?_
  rintro e _ ⟨F, cF, rfl, -, -, ⟨x7, rfl⟩⟩
  go_wp2_with fail
  go_returns
  exact ⟨rfl, by (repeat (first | (with_reducible exact SinceOf.refl _) | (with_reducible assumption) | (with_reducible refine SinceOf.alloc ?_ _) | (with_reducible refine SinceOf.drew ?_) | (with_reducible refine SinceOf.drewN ?_ _) | (with_reducible refine SinceOf.later ?_ _) | (with_reducible refine SinceOf.further ?_ _) | (with_reducible refine SinceOf.setCell ?_ (by first | exact Nat.le_refl _ | (simp; done) | omega | (simp; omega)) _)))⟩
end Go.Proofs.Ytkpnffokjpgalaa
/- Layer 46: few of the law; JointOnce, walked. -/
namespace Go.Proofs.Ytkpnffokjpgalaa
set_option linter.unusedVariables false
set_option linter.unusedSimpArgs false
open Go.RowKit Go.Sort
attribute [local go_sem ↓] Go.wp_at_zero Go.wp_at_succ

def nearX (r : List Pt) : Bool := decide (r.length ≤ 60) && r.all fun p => withinB p.1 p.2 60
/-- At most 5 rings of up to 60 vertices with coordinates within 60. -/
def fewX (rs : List (List Pt)) : Bool := rs.all nearX && decide (rs.length ≤ 5)
theorem all_drop {α : Type} (p : α → Bool) {l : List α} {k : Nat} (h : k < l.length) : (l.drop k).all p = (p l[k] && (l.drop (k + 1)).all p) := by
  rw [List.drop_eq_getElem_cons h, List.all_cons]
set_option maxRecDepth 100000 in
set_option maxHeartbeats 8000000 in
theorem few46_any (A : Option Addr) (c : Nat) (X : List RgR) (w : World) (h : IsRings w A c X) : Gives Try.prog 5 #[.slice A X.length c] w (.bool (fewX (vxs X))) := by
  apply Gives.ret
  have hlen := h.len
  have FW := few_any
  have WI := fun x y => refWithin_any x y 60
  have H := Lib.hid h
  clear h
  generalize hres : fewX (vxs X) = res
  have HR := Lib.hid hres
  clear hres
  go_enter Try.func5, Try.ntmps5
  go_wp2_with fail
  go_loopg [3] X.length (fun gas s3 wr => ∃ i : Nat, i ≤ X.length ∧ X.length - i ≤ gas ∧ s3 = .int .i64 i ∧ (((vxs X).drop i).all nearX && decide (X.length ≤ 5)) = res ∧ LaterOf w wr)
  case atStart => exact ⟨0, by omega, by omega, rfl, by rw [← HR.out]; unfold fewX; rw [vxs_len]; simp, by (repeat (first | (with_reducible exact LaterOf.refl _) | (with_reducible refine LaterOf.alloc ?_ _) | (with_reducible refine LaterOf.drew ?_) | (with_reducible refine LaterOf.drewN ?_ _) | (with_reducible refine LaterOf.later ?_ _) | (with_reducible refine LaterOf.setCell ?_ (by first | exact Nat.le_refl _ | (simp; done) | omega | (simp; omega)) _)))⟩
  case round =>
    obtain ⟨i, hi, hgas, rfl, hfin, ⟨z, rfl⟩⟩ := hrel
    by_cases hlt : i < X.length
    · have hx0 := H.out.of (w' := z.wd) (by (repeat (first | (with_reducible exact SinceOf.refl _) | (with_reducible assumption) | (with_reducible refine SinceOf.alloc ?_ _) | (with_reducible refine SinceOf.drew ?_) | (with_reducible refine SinceOf.drewN ?_ _) | (with_reducible refine SinceOf.later ?_ _) | (with_reducible refine SinceOf.further ?_ _) | (with_reducible refine SinceOf.setCell ?_ (by first | exact Nat.le_refl _ | (simp; done) | omega | (simp; omega)) _))))
      obtain ⟨g, off, rfl, hr⟩ := hx0.row.at_ (by omega)
      have hO1 := hr.there
      have k0 := hr.g0 i hlt
      have hxr := hx0.all _ (List.getElem_mem hlt)
      have hlv : i < (vxs X).length := by rw [vxs_len]; exact hlt
      rw [all_drop nearX hlv, vxs_at hlt] at hfin
      obtain ⟨x, hx⟩ : ∃ x, x = X[i] := ⟨_, rfl⟩
      rw [← hx] at k0 hxr hfin
      have F1 := FW x.A x.c x.xs
      obtain ⟨fw, hfw⟩ : ∃ b, b = decide (x.xs.length ≤ 60) := ⟨_, rfl⟩
      rw [← hfw] at F1
      have HF := Lib.hid (And.intro hfin (And.intro hfw hxr))
      obtain ⟨xA, xcc, xs⟩ := x
      simp only at k0 F1
      clear hfin hfw hxr hr hx0 hx hlv
      go_wp2_with fail
      refine (F1 _).calls.mono ?_
      rintro e _ ⟨rfl, z1, rfl⟩
      clear F1
      cases fw
      · obtain rfl : res = false := by
          have := HF.out.1
          unfold nearX at this
          rw [← HF.out.2.1] at this
          simpa using this.symm
        go_wp2_with fail
        go_returns
        exact ⟨rfl, by (repeat (first | (with_reducible exact LaterOf.refl _) | (with_reducible refine LaterOf.alloc ?_ _) | (with_reducible refine LaterOf.drew ?_) | (with_reducible refine LaterOf.drewN ?_ _) | (with_reducible refine LaterOf.later ?_ _) | (with_reducible refine LaterOf.setCell ?_ (by first | exact Nat.le_refl _ | (simp; done) | omega | (simp; omega)) _)))⟩
      · go_wp2_with fail
        go_loopg [4] xs.length (fun gas2 s4 wr => ∃ k : Nat, k ≤ xs.length ∧ xs.length - k ≤ gas2 ∧ s4 = .int .i64 k ∧ (((xs.drop k).all fun p => withinB p.1 p.2 60) && (((vxs X).drop (i + 1)).all nearX && decide (X.length ≤ 5))) = res ∧ LaterOf z1.wd wr)
        case atStart => exact ⟨0, by omega, by omega, rfl, by
          have h1 := HF.out.1
          have h2 : decide (xs.length ≤ 60) = true := HF.out.2.1.symm
          have h3 : nearX xs = xs.all fun p => withinB p.1 p.2 60 := by unfold nearX; rw [h2, Bool.true_and]
          rw [h3] at h1
          simpa [Bool.and_assoc] using h1, by (repeat (first | (with_reducible exact LaterOf.refl _) | (with_reducible refine LaterOf.alloc ?_ _) | (with_reducible refine LaterOf.drew ?_) | (with_reducible refine LaterOf.drewN ?_ _) | (with_reducible refine LaterOf.later ?_ _) | (with_reducible refine LaterOf.setCell ?_ (by first | exact Nat.le_refl _ | (simp; done) | omega | (simp; omega)) _)))⟩
        case round =>
          obtain ⟨k, hk, hgas2, rfl, hfin2, ⟨v, rfl⟩⟩ := hrel
          have hl2 := HF.out.2.2.len
          (try simp only at hl2)
          have k1 : v.wd.cell? ⟨g, off + i, none⟩ = some (.slice xA xs.length xcc) := by simp [go_sem, *]
          by_cases hlt2 : k < xs.length
          · have hv0 := HF.out.2.2.row.of (w' := v.wd) (by (repeat (first | (with_reducible exact SinceOf.refl _) | (with_reducible assumption) | (with_reducible refine SinceOf.alloc ?_ _) | (with_reducible refine SinceOf.drew ?_) | (with_reducible refine SinceOf.drewN ?_ _) | (with_reducible refine SinceOf.later ?_ _) | (with_reducible refine SinceOf.further ?_ _) | (with_reducible refine SinceOf.setCell ?_ (by first | exact Nat.le_refl _ | (simp; done) | omega | (simp; omega)) _))))
            simp only at hv0
            obtain ⟨g2, off2, rfl, hr2⟩ := hv0.at_ (by omega)
            have hO2 := hr2.there
            have v0 := hr2.v0 k hlt2
            have v1 := hr2.v1 k hlt2
            rw [all_drop _ hlt2] at hfin2
            generalize xs[k] = p at *
            obtain ⟨px, py⟩ := p
            simp only at v0 v1 hfin2
            have W1 := WI px py
            obtain ⟨wb, hwb⟩ : ∃ b, b = withinB px py 60 := ⟨_, rfl⟩
            rw [← hwb] at W1 hfin2
            have HG := Lib.hid hfin2
            clear hfin2 hwb hr2 hv0
            go_wp2_with fail
            refine (W1 _).calls.mono ?_
            rintro e _ ⟨rfl, v2, rfl⟩
            clear W1
            cases wb
            · obtain rfl : res = false := by simpa using HG.out.symm
              go_wp2_with fail
              go_returns
              exact ⟨rfl, by (repeat (first | (with_reducible exact LaterOf.refl _) | (with_reducible refine LaterOf.alloc ?_ _) | (with_reducible refine LaterOf.drew ?_) | (with_reducible refine LaterOf.drewN ?_ _) | (with_reducible refine LaterOf.later ?_ _) | (with_reducible refine LaterOf.setCell ?_ (by first | exact Nat.le_refl _ | (simp; done) | omega | (simp; omega)) _)))⟩
            · go_wp2_with fail
              go_roundg (xs.length - (k + 1))
              case measure => omega
              case rel => exact ⟨k + 1, hlt2, Nat.le_refl _, by go_num, by simpa using HG.out, by (repeat (first | (with_reducible exact LaterOf.refl _) | (with_reducible refine LaterOf.alloc ?_ _) | (with_reducible refine LaterOf.drew ?_) | (with_reducible refine LaterOf.drewN ?_ _) | (with_reducible refine LaterOf.later ?_ _) | (with_reducible refine LaterOf.setCell ?_ (by first | exact Nat.le_refl _ | (simp; done) | omega | (simp; omega)) _)))⟩
          · obtain rfl : k = xs.length := by omega
            rw [List.drop_length, List.all_nil, Bool.true_and] at hfin2
            have HG := Lib.hid hfin2
            clear hfin2
            go_wp2_with fail
            go_roundg (X.length - (i + 1))
            case measure => omega
            case rel => exact ⟨i + 1, hlt, Nat.le_refl _, by go_num, HG.out, by (repeat (first | (with_reducible exact LaterOf.refl _) | (with_reducible refine LaterOf.alloc ?_ _) | (with_reducible refine LaterOf.drew ?_) | (with_reducible refine LaterOf.drewN ?_ _) | (with_reducible refine LaterOf.later ?_ _) | (with_reducible refine LaterOf.setCell ?_ (by first | exact Nat.le_refl _ | (simp; done) | omega | (simp; omega)) _)))⟩
    · obtain rfl : i = X.length := by omega
      rw [show (vxs X).drop X.length = [] by rw [← vxs_len X]; exact List.drop_length, List.all_nil, Bool.true_and] at hfin
      have g1 : decide ((X.length : Int) ≤ 5) = res := by rw [← hfin, decide_eq_decide]; omega
      clear hfin
      go_wp2_with fail
      go_returns
      exact ⟨by first | rfl | simp [g1], by (repeat (first | (with_reducible exact LaterOf.refl _) | (with_reducible refine LaterOf.alloc ?_ _) | (with_reducible refine LaterOf.drew ?_) | (with_reducible refine LaterOf.drewN ?_ _) | (with_reducible refine LaterOf.later ?_ _) | (with_reducible refine LaterOf.setCell ?_ (by first | exact Nat.le_refl _ | (simp; done) | omega | (simp; omega)) _)))⟩
end Go.Proofs.Ytkpnffokjpgalaa
