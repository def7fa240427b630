/- Layer 10: side and Where of the program. -/
import Derived.Test.YticmfmcflikneaaHull13
namespace Go.Proofs.Yticmfmcflikneaa
open Go.RowKit Go.Sort
set_option linter.unusedVariables false
set_option linter.unusedSimpArgs false
attribute [local go_sem ↓] Go.wp_at_zero Go.wp_at_succ

def sideP (a b p : Pt) : Int := if farB p then -1 else turnP a b p
theorem side_any (a b p : Pt) (w : World) : Gives Try.prog 79 #[vv a.1 a.2, vv b.1 b.2, vv p.1 p.2] w (.int .i64 (sideP a b p)) := by
  obtain ⟨ax, ay⟩ := a
  obtain ⟨bx, by_⟩ := b
  obtain ⟨px, py⟩ := p
  apply Gives.ret
  have N := within_any px py 8000
  have hN : withinB px py 8000 = !farB (px, py) := by unfold farB; simp
  rw [hN] at N
  have T := turn_any ax ay bx by_ px py
  unfold sideP
  cases hf : farB (px, py)
  · rw [hf] at N
    go_enter Try.func79, Try.ntmps79
    go_wp2_with fail
    refine (N _).calls.mono ?_
    rintro e _ ⟨rfl, x1, rfl⟩
    go_wp2_with fail
    refine (T _).calls.mono ?_
    rintro e _ ⟨rfl, x2, rfl⟩
    go_wp2_with fail
    go_returns
    exact ⟨rfl, by (repeat (first | (with_reducible exact LaterOf.refl _) | (with_reducible refine LaterOf.alloc ?_ _) | (with_reducible refine LaterOf.drew ?_) | (with_reducible refine LaterOf.drewN ?_ _) | (with_reducible refine LaterOf.later ?_ _) | (with_reducible refine LaterOf.setCell ?_ (by first | exact Nat.le_refl _ | (simp; done) | omega | (simp; omega)) _)))⟩
  · rw [hf] at N
    go_enter Try.func79, Try.ntmps79
    go_wp2_with fail
    refine (N _).calls.mono ?_
    rintro e _ ⟨rfl, x1, rfl⟩
    go_wp2_with fail
    go_returns
    exact ⟨rfl, by (repeat (first | (with_reducible exact LaterOf.refl _) | (with_reducible refine LaterOf.alloc ?_ _) | (with_reducible refine LaterOf.drew ?_) | (with_reducible refine LaterOf.drewN ?_ _) | (with_reducible refine LaterOf.later ?_ _) | (with_reducible refine LaterOf.setCell ?_ (by first | exact Nat.le_refl _ | (simp; done) | omega | (simp; omega)) _)))⟩
def whereL (r : List Pt) (p : Pt) : List Nat → Int → Int
  | [], out => out
  | i :: l, out => if sideP (vat r i) (vat r ((i + 1) % r.length)) p < 0 then 0 else whereL r p l (if sideP (vat r i) (vat r ((i + 1) % r.length)) p = 0 then 1 else out)
def whereV (r : List Pt) (p : Pt) : Int := if convexB r then whereL r p (List.range' 0 r.length) 2 else 0
theorem range_step {n i : Nat} (h : i < n) : List.range' i (n - i) = i :: List.range' (i + 1) (n - (i + 1)) := by
  rw [show n - i = (n - (i + 1)) + 1 by omega, List.range'_succ]
set_option maxRecDepth 100000 in
set_option maxHeartbeats 8000000 in
theorem where_any (A : Option Addr) (c : Nat) (r : List (Int × Int)) (px py : Int) (w : World) (h : IsVecs w A c r) (hlen : r.length < 4611686018427387904) :
    Gives Try.prog 40 #[.slice A r.length c, vv px py] w (.int .i64 (whereV r (px, py))) := by
  apply Gives.ret
  have C := fun W (hW : SinceOf w W) => convex_any A c r W (h.of hW) hlen
  have H := Lib.hid h
  clear h
  unfold whereV
  cases hv : convexB r
  · rw [hv] at C
    go_enter Try.func40, Try.ntmps40
    go_wp2_with fail
    refine (C _ (by (repeat (first | (with_reducible exact SinceOf.refl _) | (with_reducible assumption) | (with_reducible refine SinceOf.alloc ?_ _) | (with_reducible refine SinceOf.drew ?_) | (with_reducible refine SinceOf.drewN ?_ _) | (with_reducible refine SinceOf.later ?_ _) | (with_reducible refine SinceOf.further ?_ _) | (with_reducible refine SinceOf.setCell ?_ (by first | exact Nat.le_refl _ | (simp; done) | omega | (simp; omega)) _))))).calls.mono ?_
    rintro e _ ⟨rfl, x0, rfl⟩
    go_wp2_with fail
    go_returns
    exact ⟨rfl, by (repeat (first | (with_reducible exact LaterOf.refl _) | (with_reducible refine LaterOf.alloc ?_ _) | (with_reducible refine LaterOf.drew ?_) | (with_reducible refine LaterOf.drewN ?_ _) | (with_reducible refine LaterOf.later ?_ _) | (with_reducible refine LaterOf.setCell ?_ (by first | exact Nat.le_refl _ | (simp; done) | omega | (simp; omega)) _)))⟩
  · rw [hv] at C
    go_enter Try.func40, Try.ntmps40
    go_wp2_with fail
    refine (C _ (by (repeat (first | (with_reducible exact SinceOf.refl _) | (with_reducible assumption) | (with_reducible refine SinceOf.alloc ?_ _) | (with_reducible refine SinceOf.drew ?_) | (with_reducible refine SinceOf.drewN ?_ _) | (with_reducible refine SinceOf.later ?_ _) | (with_reducible refine SinceOf.further ?_ _) | (with_reducible refine SinceOf.setCell ?_ (by first | exact Nat.le_refl _ | (simp; done) | omega | (simp; omega)) _))))).calls.mono ?_
    rintro e _ ⟨rfl, x0, rfl⟩
    clear C
    have v1 : VarV x0.wd w.heap.size (px, py) := ((VarV.new w px py 32)).of (by (repeat (first | (with_reducible exact SinceOf.refl _) | (with_reducible assumption) | (with_reducible refine SinceOf.alloc ?_ _) | (with_reducible refine SinceOf.drew ?_) | (with_reducible refine SinceOf.drewN ?_ _) | (with_reducible refine SinceOf.later ?_ _) | (with_reducible refine SinceOf.further ?_ _) | (with_reducible refine SinceOf.setCell ?_ (by first | exact Nat.le_refl _ | (simp; done) | omega | (simp; omega)) _))))
    obtain ⟨v, hv1⟩ : LaterOf w x0.wd := by (repeat (first | (with_reducible exact LaterOf.refl _) | (with_reducible refine LaterOf.alloc ?_ _) | (with_reducible refine LaterOf.drew ?_) | (with_reducible refine LaterOf.drewN ?_ _) | (with_reducible refine LaterOf.later ?_ _) | (with_reducible refine LaterOf.setCell ?_ (by first | exact Nat.le_refl _ | (simp; done) | omega | (simp; omega)) _)))
    rw [hv1] at v1 ⊢
    clear hv1
    clear x0
    have HV := Lib.hid v1
    clear v1
    go_wp2_with fail
    go_loopg [5, 15] r.length (fun gas s5 s15 wr => ∃ (i : Nat) (out : Int), i ≤ r.length ∧ r.length - i ≤ gas ∧ s5 = .int .i64 out ∧ s15 = .int .i64 i ∧ VarV wr w.heap.size (px, py) ∧ LaterOf w wr ∧ whereL r (px, py) (List.range' 0 r.length) 2 = whereL r (px, py) (List.range' i (r.length - i)) out)
    case atStart => exact ⟨0, 2, by omega, by omega, rfl, rfl, HV.out, by (repeat (first | (with_reducible exact LaterOf.refl _) | (with_reducible refine LaterOf.alloc ?_ _) | (with_reducible refine LaterOf.drew ?_) | (with_reducible refine LaterOf.drewN ?_ _) | (with_reducible refine LaterOf.later ?_ _) | (with_reducible refine LaterOf.setCell ?_ (by first | exact Nat.le_refl _ | (simp; done) | omega | (simp; omega)) _))), rfl⟩
    case round =>
      obtain ⟨i, out, hi, hgas, rfl, rfl, e1, ⟨u, rfl⟩, hall⟩ := hrel
      by_cases hlt : i < r.length
      · rw [range_step hlt, whereL] at hall
        have hr0 := H.out.of (w' := u.wd) (by (repeat (first | (with_reducible exact SinceOf.refl _) | (with_reducible assumption) | (with_reducible refine SinceOf.alloc ?_ _) | (with_reducible refine SinceOf.drew ?_) | (with_reducible refine SinceOf.drewN ?_ _) | (with_reducible refine SinceOf.later ?_ _) | (with_reducible refine SinceOf.further ?_ _) | (with_reducible refine SinceOf.setCell ?_ (by first | exact Nat.le_refl _ | (simp; done) | omega | (simp; omega)) _))))
        obtain ⟨g, off, rfl, hr⟩ := hr0.at_ (by omega)
        have hO := hr.there
        have hq : (i + 1) % r.length < r.length := Nat.mod_lt _ (by omega)
        have a0 := hr.v0 i hlt
        have a1 := hr.v1 i hlt
        have b0 := hr.v0 _ hq
        have b1 := hr.v1 _ hq
        have va : vat r i = r[i] := vat_eq hlt
        have vb : vat r ((i + 1) % r.length) = r[(i + 1) % r.length] := vat_eq hq
        have hqt : Int.tmod ((i : Int) + 1) (r.length : Int) = (((i + 1) % r.length : Nat) : Int) := by rw [Int.tmod_eq_emod_of_nonneg (by omega), Int.natCast_emod, Int.natCast_add]; rfl
        rw [va, vb] at hall
        generalize r[(i + 1) % r.length] = pb at *
        generalize (i + 1) % r.length = q at *
        generalize r[i] = pa at *
        have S := side_any pa pb (px, py)
        generalize sideP pa pb (px, py) = t at *
        obtain ⟨xa, ya⟩ := pa
        obtain ⟨xb, yb⟩ := pb
        have d0 := e1.c0
        have d1 := e1.c1
        have hg1 := e1.lt
        have hU1 : Nonempty (Old u.wd w.heap.size) := ⟨⟨by omega⟩⟩
        simp only at a0 a1 b0 b1 S d0 d1
        have hn0 : ¬ (r.length : Int) = 0 := by omega
        have hw1 : IntKind.i64.wrap ((i : Int) + 1) = (i : Int) + 1 := IntWalk.i64_in _ (by omega)
        have HE := Lib.hid (And.intro hall (And.intro e1 hqt))
        clear hall e1 va vb hr hr0
        go_wp2_with fail
        refine (S _).calls.mono ?_
        rintro e _ ⟨rfl, ⟨x2, rfl⟩⟩
        clear S
        rcases Int.lt_trichotomy t 0 with h | h | h
        · have g1 : decide (t < 0) = true := decide_eq_true h
          have HH := Lib.hid h
          clear h
          go_wp2_with fail
          go_returns
          exact ⟨by rw [HE.out.1, if_pos HH.out]; rfl, by (repeat (first | (with_reducible exact LaterOf.refl _) | (with_reducible refine LaterOf.alloc ?_ _) | (with_reducible refine LaterOf.drew ?_) | (with_reducible refine LaterOf.drewN ?_ _) | (with_reducible refine LaterOf.later ?_ _) | (with_reducible refine LaterOf.setCell ?_ (by first | exact Nat.le_refl _ | (simp; done) | omega | (simp; omega)) _)))⟩
        · have g1 : decide (t < 0) = false := decide_eq_false (by omega)
          have g2 : (t == 0) = true := by simp; exact h
          have HH := Lib.hid h
          clear h
          go_wp2_with fail
          go_roundg (r.length - (i + 1))
          case measure => omega
          case rel => exact ⟨i + 1, 1, hlt, Nat.le_refl _, rfl, by go_num, HE.out.2.1.of (by (repeat (first | (with_reducible exact SinceOf.refl _) | (with_reducible assumption) | (with_reducible refine SinceOf.alloc ?_ _) | (with_reducible refine SinceOf.drew ?_) | (with_reducible refine SinceOf.drewN ?_ _) | (with_reducible refine SinceOf.later ?_ _) | (with_reducible refine SinceOf.further ?_ _) | (with_reducible refine SinceOf.setCell ?_ (by first | exact Nat.le_refl _ | (simp; done) | omega | (simp; omega)) _)))), by (repeat (first | (with_reducible exact LaterOf.refl _) | (with_reducible refine LaterOf.alloc ?_ _) | (with_reducible refine LaterOf.drew ?_) | (with_reducible refine LaterOf.drewN ?_ _) | (with_reducible refine LaterOf.later ?_ _) | (with_reducible refine LaterOf.setCell ?_ (by first | exact Nat.le_refl _ | (simp; done) | omega | (simp; omega)) _))), by rw [HE.out.1, if_neg (by have := HH.out; omega), if_pos HH.out]⟩
        · have g1 : decide (t < 0) = false := decide_eq_false (by omega)
          have g2 : (t == 0) = false := by simp; omega
          go_wp2_with fail
          go_roundg (r.length - (i + 1))
          case measure => omega
          case rel => exact ⟨i + 1, out, hlt, Nat.le_refl _, rfl, by go_num, HE.out.2.1.of (by (repeat (first | (with_reducible exact SinceOf.refl _) | (with_reducible assumption) | (with_reducible refine SinceOf.alloc ?_ _) | (with_reducible refine SinceOf.drew ?_) | (with_reducible refine SinceOf.drewN ?_ _) | (with_reducible refine SinceOf.later ?_ _) | (with_reducible refine SinceOf.further ?_ _) | (with_reducible refine SinceOf.setCell ?_ (by first | exact Nat.le_refl _ | (simp; done) | omega | (simp; omega)) _)))), by (repeat (first | (with_reducible exact LaterOf.refl _) | (with_reducible refine LaterOf.alloc ?_ _) | (with_reducible refine LaterOf.drew ?_) | (with_reducible refine LaterOf.drewN ?_ _) | (with_reducible refine LaterOf.later ?_ _) | (with_reducible refine LaterOf.setCell ?_ (by first | exact Nat.le_refl _ | (simp; done) | omega | (simp; omega)) _))), by rw [HE.out.1, if_neg (by omega), if_neg (by omega)]⟩
      · have hil : i = r.length := by omega
        subst hil
        rw [Nat.sub_self] at hall
        have HA := Lib.hid hall
        clear hall e1
        go_wp2_with fail
        go_returns
        exact ⟨by rw [HA.out]; rfl, by (repeat (first | (with_reducible exact LaterOf.refl _) | (with_reducible refine LaterOf.alloc ?_ _) | (with_reducible refine LaterOf.drew ?_) | (with_reducible refine LaterOf.drewN ?_ _) | (with_reducible refine LaterOf.later ?_ _) | (with_reducible refine LaterOf.setCell ?_ (by first | exact Nat.le_refl _ | (simp; done) | omega | (simp; omega)) _)))⟩
theorem whereL_far (r : List Pt) (p : Pt) (hf : farB p = true) (h : 0 < r.length) : whereL r p (List.range' 0 r.length) 2 = 0 := by
  have := range_step h
  rw [Nat.sub_zero] at this
  rw [this, whereL, if_pos]
  unfold sideP
  rw [hf, if_pos rfl]
  omega
set_option maxRecDepth 100000 in
set_option maxHeartbeats 8000000 in
theorem refWhere_any (A : Option Addr) (c : Nat) (r : List (Int × Int)) (px py : Int) (w : World) (h : IsVecs w A c r) (hlen : r.length < 4611686018427387904) :
    Gives Try.prog 41 #[.slice A r.length c, vv px py] w (.int .i64 (whereV r (px, py))) := by
  apply Gives.ret
  have C := fun W (hW : SinceOf w W) => refConvex_any A c r W (h.of hW) hlen
  have N := refWithin_any px py 8000
  have hN : withinB px py 8000 = !farB (px, py) := by unfold farB; simp
  rw [hN] at N
  have H := Lib.hid h
  clear h hN
  unfold whereV
  cases hv : convexB r
  · rw [hv] at C
    go_enter Try.func41, Try.ntmps41
    go_wp2_with fail
    refine (C _ (by (repeat (first | (with_reducible exact SinceOf.refl _) | (with_reducible assumption) | (with_reducible refine SinceOf.alloc ?_ _) | (with_reducible refine SinceOf.drew ?_) | (with_reducible refine SinceOf.drewN ?_ _) | (with_reducible refine SinceOf.later ?_ _) | (with_reducible refine SinceOf.further ?_ _) | (with_reducible refine SinceOf.setCell ?_ (by first | exact Nat.le_refl _ | (simp; done) | omega | (simp; omega)) _))))).calls.mono ?_
    rintro e _ ⟨rfl, x0, rfl⟩
    go_wp2_with fail
    go_returns
    exact ⟨rfl, by (repeat (first | (with_reducible exact LaterOf.refl _) | (with_reducible refine LaterOf.alloc ?_ _) | (with_reducible refine LaterOf.drew ?_) | (with_reducible refine LaterOf.drewN ?_ _) | (with_reducible refine LaterOf.later ?_ _) | (with_reducible refine LaterOf.setCell ?_ (by first | exact Nat.le_refl _ | (simp; done) | omega | (simp; omega)) _)))⟩
  have h3 : 3 ≤ r.length := by
    unfold convexB at hv
    simp only [Bool.and_eq_true, decide_eq_true_eq] at hv
    omega
  cases hf : farB (px, py)
  case true =>
    rw [hv] at C
    rw [hf] at N
    have hw0 := whereL_far r (px, py) hf (by omega)
    go_enter Try.func41, Try.ntmps41
    go_wp2_with fail
    refine (C _ (by (repeat (first | (with_reducible exact SinceOf.refl _) | (with_reducible assumption) | (with_reducible refine SinceOf.alloc ?_ _) | (with_reducible refine SinceOf.drew ?_) | (with_reducible refine SinceOf.drewN ?_ _) | (with_reducible refine SinceOf.later ?_ _) | (with_reducible refine SinceOf.further ?_ _) | (with_reducible refine SinceOf.setCell ?_ (by first | exact Nat.le_refl _ | (simp; done) | omega | (simp; omega)) _))))).calls.mono ?_
    rintro e _ ⟨rfl, x0, rfl⟩
    go_wp2_with fail
    refine (N _).calls.mono ?_
    rintro e _ ⟨rfl, x1, rfl⟩
    go_wp2_with fail
    go_returns
    exact ⟨by first | rfl | (rw [if_pos rfl, hw0]; rfl) | (rw [hw0]; rfl), by (repeat (first | (with_reducible exact LaterOf.refl _) | (with_reducible refine LaterOf.alloc ?_ _) | (with_reducible refine LaterOf.drew ?_) | (with_reducible refine LaterOf.drewN ?_ _) | (with_reducible refine LaterOf.later ?_ _) | (with_reducible refine LaterOf.setCell ?_ (by first | exact Nat.le_refl _ | (simp; done) | omega | (simp; omega)) _)))⟩
  case false =>
    rw [hv] at C
    rw [hf] at N
    have hsd : ∀ a b, sideP a b (px, py) = turnP a b (px, py) := fun a b => by unfold sideP; rw [hf]; rfl
    go_enter Try.func41, Try.ntmps41
    go_wp2_with fail
    refine (C _ (by (repeat (first | (with_reducible exact SinceOf.refl _) | (with_reducible assumption) | (with_reducible refine SinceOf.alloc ?_ _) | (with_reducible refine SinceOf.drew ?_) | (with_reducible refine SinceOf.drewN ?_ _) | (with_reducible refine SinceOf.later ?_ _) | (with_reducible refine SinceOf.further ?_ _) | (with_reducible refine SinceOf.setCell ?_ (by first | exact Nat.le_refl _ | (simp; done) | omega | (simp; omega)) _))))).calls.mono ?_
    rintro e _ ⟨rfl, x0, rfl⟩
    clear C
    go_wp2_with fail
    refine (N _).calls.mono ?_
    rintro e _ ⟨rfl, x1, rfl⟩
    clear N
    have v1 : VarV x1.wd w.heap.size (px, py) := ((VarV.new w px py 32)).of (by (repeat (first | (with_reducible exact SinceOf.refl _) | (with_reducible assumption) | (with_reducible refine SinceOf.alloc ?_ _) | (with_reducible refine SinceOf.drew ?_) | (with_reducible refine SinceOf.drewN ?_ _) | (with_reducible refine SinceOf.later ?_ _) | (with_reducible refine SinceOf.further ?_ _) | (with_reducible refine SinceOf.setCell ?_ (by first | exact Nat.le_refl _ | (simp; done) | omega | (simp; omega)) _))))
    obtain ⟨v, hv1⟩ : LaterOf w x1.wd := by (repeat (first | (with_reducible exact LaterOf.refl _) | (with_reducible refine LaterOf.alloc ?_ _) | (with_reducible refine LaterOf.drew ?_) | (with_reducible refine LaterOf.drewN ?_ _) | (with_reducible refine LaterOf.later ?_ _) | (with_reducible refine LaterOf.setCell ?_ (by first | exact Nat.le_refl _ | (simp; done) | omega | (simp; omega)) _)))
    rw [hv1] at v1 ⊢
    clear hv1
    clear x1 x0
    have HV := Lib.hid v1
    clear v1
    go_wp2_with fail
    go_loopg [5, 6] r.length (fun gas s5 s6 wr => ∃ (i : Nat) (on : Bool), i ≤ r.length ∧ r.length - i ≤ gas ∧ s5 = .bool on ∧ s6 = .int .i64 i ∧ VarV wr w.heap.size (px, py) ∧ LaterOf w wr ∧ whereL r (px, py) (List.range' 0 r.length) 2 = whereL r (px, py) (List.range' i (r.length - i)) (if on then 1 else 2))
    case atStart => exact ⟨0, false, by omega, by omega, rfl, rfl, HV.out, by (repeat (first | (with_reducible exact LaterOf.refl _) | (with_reducible refine LaterOf.alloc ?_ _) | (with_reducible refine LaterOf.drew ?_) | (with_reducible refine LaterOf.drewN ?_ _) | (with_reducible refine LaterOf.later ?_ _) | (with_reducible refine LaterOf.setCell ?_ (by first | exact Nat.le_refl _ | (simp; done) | omega | (simp; omega)) _))), rfl⟩
    case round =>
      obtain ⟨i, on, hi, hgas, rfl, rfl, e1, ⟨u, rfl⟩, hall⟩ := hrel
      by_cases hlt : i < r.length
      · rw [range_step hlt, whereL, hsd] at hall
        have hr0 := H.out.of (w' := u.wd) (by (repeat (first | (with_reducible exact SinceOf.refl _) | (with_reducible assumption) | (with_reducible refine SinceOf.alloc ?_ _) | (with_reducible refine SinceOf.drew ?_) | (with_reducible refine SinceOf.drewN ?_ _) | (with_reducible refine SinceOf.later ?_ _) | (with_reducible refine SinceOf.further ?_ _) | (with_reducible refine SinceOf.setCell ?_ (by first | exact Nat.le_refl _ | (simp; done) | omega | (simp; omega)) _))))
        obtain ⟨g, off, rfl, hr⟩ := hr0.at_ (by omega)
        have hO := hr.there
        have hq : (i + 1) % r.length < r.length := Nat.mod_lt _ (by omega)
        have a0 := hr.v0 i hlt
        have a1 := hr.v1 i hlt
        have b0 := hr.v0 _ hq
        have b1 := hr.v1 _ hq
        have va : vat r i = r[i] := vat_eq hlt
        have vb : vat r ((i + 1) % r.length) = r[(i + 1) % r.length] := vat_eq hq
        have hqt : Int.tmod ((i : Int) + 1) (r.length : Int) = (((i + 1) % r.length : Nat) : Int) := by rw [Int.tmod_eq_emod_of_nonneg (by omega), Int.natCast_emod, Int.natCast_add]; rfl
        rw [va, vb] at hall
        generalize r[(i + 1) % r.length] = pb at *
        generalize (i + 1) % r.length = q at *
        generalize r[i] = pa at *
        obtain ⟨xa, ya⟩ := pa
        obtain ⟨xb, yb⟩ := pb
        have T := refTurn_any xa ya xb yb px py
        rw [show turnP (xa, ya) (xb, yb) (px, py) = turnI xa ya xb yb px py from rfl] at hall
        generalize turnI xa ya xb yb px py = t at *
        have d0 := e1.c0
        have d1 := e1.c1
        have hg1 := e1.lt
        have hU1 : Nonempty (Old u.wd w.heap.size) := ⟨⟨by omega⟩⟩
        simp only at a0 a1 b0 b1 d0 d1
        have hn0 : ¬ (r.length : Int) = 0 := by omega
        have hw1 : IntKind.i64.wrap ((i : Int) + 1) = (i : Int) + 1 := IntWalk.i64_in _ (by omega)
        have HE := Lib.hid (And.intro hall (And.intro e1 hqt))
        clear hall e1 va vb hr hr0
        rcases Int.lt_trichotomy t 0 with h | h | h
        · have g1 : decide (t < 0) = true := decide_eq_true h
          have HH := Lib.hid h
          clear h
          go_wp2_with fail
          refine region_later (by kernel_rfl) (by kernel_rfl) ?_
          repeat (go_big_quiet_step ((with_reducible refine Gives.later (T _))))
          refine wpQuiet_nil ?_
          rintro _ ⟨z4, rfl⟩
          clear hw1 hqt
          go_wp2_with fail
          go_returns
          exact ⟨by rw [HE.out.1, if_pos HH.out]; rfl, by (repeat (first | (with_reducible exact LaterOf.refl _) | (with_reducible refine LaterOf.alloc ?_ _) | (with_reducible refine LaterOf.drew ?_) | (with_reducible refine LaterOf.drewN ?_ _) | (with_reducible refine LaterOf.later ?_ _) | (with_reducible refine LaterOf.setCell ?_ (by first | exact Nat.le_refl _ | (simp; done) | omega | (simp; omega)) _)))⟩
        · have g1 : decide (t < 0) = false := decide_eq_false (by omega)
          have g2 : (t == 0) = true := by simp; exact h
          have HH := Lib.hid h
          clear h
          cases on
          · go_wp2_with fail
            refine region_later (by kernel_rfl) (by kernel_rfl) ?_
            repeat (go_big_quiet_step ((with_reducible refine Gives.later (T _))))
            refine wpQuiet_nil ?_
            rintro _ ⟨z4, rfl⟩
            clear hw1 hqt
            go_wp2_with fail
            go_roundg (r.length - (i + 1))
            case measure => omega
            case rel => exact ⟨i + 1, true, hlt, Nat.le_refl _, rfl, by go_num, HE.out.2.1.of (by (repeat (first | (with_reducible exact SinceOf.refl _) | (with_reducible assumption) | (with_reducible refine SinceOf.alloc ?_ _) | (with_reducible refine SinceOf.drew ?_) | (with_reducible refine SinceOf.drewN ?_ _) | (with_reducible refine SinceOf.later ?_ _) | (with_reducible refine SinceOf.further ?_ _) | (with_reducible refine SinceOf.setCell ?_ (by first | exact Nat.le_refl _ | (simp; done) | omega | (simp; omega)) _)))), by (repeat (first | (with_reducible exact LaterOf.refl _) | (with_reducible refine LaterOf.alloc ?_ _) | (with_reducible refine LaterOf.drew ?_) | (with_reducible refine LaterOf.drewN ?_ _) | (with_reducible refine LaterOf.later ?_ _) | (with_reducible refine LaterOf.setCell ?_ (by first | exact Nat.le_refl _ | (simp; done) | omega | (simp; omega)) _))), by rw [HE.out.1, if_neg (by have := HH.out; omega), if_pos HH.out]; rfl⟩
          · go_wp2_with fail
            refine region_later (by kernel_rfl) (by kernel_rfl) ?_
            repeat (go_big_quiet_step ((with_reducible refine Gives.later (T _))))
            refine wpQuiet_nil ?_
            rintro _ ⟨z4, rfl⟩
            clear hw1 hqt
            go_wp2_with fail
            go_roundg (r.length - (i + 1))
            case measure => omega
            case rel => exact ⟨i + 1, true, hlt, Nat.le_refl _, rfl, by go_num, HE.out.2.1.of (by (repeat (first | (with_reducible exact SinceOf.refl _) | (with_reducible assumption) | (with_reducible refine SinceOf.alloc ?_ _) | (with_reducible refine SinceOf.drew ?_) | (with_reducible refine SinceOf.drewN ?_ _) | (with_reducible refine SinceOf.later ?_ _) | (with_reducible refine SinceOf.further ?_ _) | (with_reducible refine SinceOf.setCell ?_ (by first | exact Nat.le_refl _ | (simp; done) | omega | (simp; omega)) _)))), by (repeat (first | (with_reducible exact LaterOf.refl _) | (with_reducible refine LaterOf.alloc ?_ _) | (with_reducible refine LaterOf.drew ?_) | (with_reducible refine LaterOf.drewN ?_ _) | (with_reducible refine LaterOf.later ?_ _) | (with_reducible refine LaterOf.setCell ?_ (by first | exact Nat.le_refl _ | (simp; done) | omega | (simp; omega)) _))), by rw [HE.out.1, if_neg (by have := HH.out; omega), if_pos HH.out]; rfl⟩
        · have g1 : decide (t < 0) = false := decide_eq_false (by omega)
          have g2 : (t == 0) = false := by simp; omega
          have HH := Lib.hid h
          clear h
          cases on
          · go_wp2_with fail
            refine region_later (by kernel_rfl) (by kernel_rfl) ?_
            repeat (go_big_quiet_step ((with_reducible refine Gives.later (T _))))
            refine wpQuiet_nil ?_
            rintro _ ⟨z4, rfl⟩
            clear hw1 hqt
            go_wp2_with fail
            go_roundg (r.length - (i + 1))
            case measure => omega
            case rel => exact ⟨i + 1, false, hlt, Nat.le_refl _, rfl, by go_num, HE.out.2.1.of (by (repeat (first | (with_reducible exact SinceOf.refl _) | (with_reducible assumption) | (with_reducible refine SinceOf.alloc ?_ _) | (with_reducible refine SinceOf.drew ?_) | (with_reducible refine SinceOf.drewN ?_ _) | (with_reducible refine SinceOf.later ?_ _) | (with_reducible refine SinceOf.further ?_ _) | (with_reducible refine SinceOf.setCell ?_ (by first | exact Nat.le_refl _ | (simp; done) | omega | (simp; omega)) _)))), by (repeat (first | (with_reducible exact LaterOf.refl _) | (with_reducible refine LaterOf.alloc ?_ _) | (with_reducible refine LaterOf.drew ?_) | (with_reducible refine LaterOf.drewN ?_ _) | (with_reducible refine LaterOf.later ?_ _) | (with_reducible refine LaterOf.setCell ?_ (by first | exact Nat.le_refl _ | (simp; done) | omega | (simp; omega)) _))), by rw [HE.out.1, if_neg (by have := HH.out; omega), if_neg (by have := HH.out; omega)]; try simp⟩
          · go_wp2_with fail
            refine region_later (by kernel_rfl) (by kernel_rfl) ?_
            repeat (go_big_quiet_step ((with_reducible refine Gives.later (T _))))
            refine wpQuiet_nil ?_
            rintro _ ⟨z4, rfl⟩
            clear hw1 hqt
            go_wp2_with fail
            go_roundg (r.length - (i + 1))
            case measure => omega
            case rel => exact ⟨i + 1, true, hlt, Nat.le_refl _, rfl, by go_num, HE.out.2.1.of (by (repeat (first | (with_reducible exact SinceOf.refl _) | (with_reducible assumption) | (with_reducible refine SinceOf.alloc ?_ _) | (with_reducible refine SinceOf.drew ?_) | (with_reducible refine SinceOf.drewN ?_ _) | (with_reducible refine SinceOf.later ?_ _) | (with_reducible refine SinceOf.further ?_ _) | (with_reducible refine SinceOf.setCell ?_ (by first | exact Nat.le_refl _ | (simp; done) | omega | (simp; omega)) _)))), by (repeat (first | (with_reducible exact LaterOf.refl _) | (with_reducible refine LaterOf.alloc ?_ _) | (with_reducible refine LaterOf.drew ?_) | (with_reducible refine LaterOf.drewN ?_ _) | (with_reducible refine LaterOf.later ?_ _) | (with_reducible refine LaterOf.setCell ?_ (by first | exact Nat.le_refl _ | (simp; done) | omega | (simp; omega)) _))), by rw [HE.out.1, if_neg (by have := HH.out; omega), if_neg (by have := HH.out; omega)]; try simp⟩
      · have hil : i = r.length := by omega
        subst hil
        rw [Nat.sub_self] at hall
        have HA := Lib.hid hall
        clear hall e1
        cases on
        all_goals
          go_wp2_with fail
          go_returns
          exact ⟨by rw [HA.out]; rfl, by (repeat (first | (with_reducible exact LaterOf.refl _) | (with_reducible refine LaterOf.alloc ?_ _) | (with_reducible refine LaterOf.drew ?_) | (with_reducible refine LaterOf.drewN ?_ _) | (with_reducible refine LaterOf.later ?_ _) | (with_reducible refine LaterOf.setCell ?_ (by first | exact Nat.le_refl _ | (simp; done) | omega | (simp; omega)) _)))⟩
end Go.Proofs.Yticmfmcflikneaa
