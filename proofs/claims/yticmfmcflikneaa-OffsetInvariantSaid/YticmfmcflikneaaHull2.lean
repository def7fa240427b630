/- Layer 10: Convex (both sides). -/
import Derived.Test.YticmfmcflikneaaHull1
import Derived.Deep.RegionHeld3
namespace Go.Proofs.Yticmfmcflikneaa
open Go.RowKit Go.Sort
set_option linter.unusedVariables false
attribute [local go_sem ↓] Go.wp_at_zero Go.wp_at_succ

def vat (r : List (Int × Int)) (i : Nat) : Int × Int := r.getD i (0, 0)
def turnP (a b c : Int × Int) : Int := turnI a.1 a.2 b.1 b.2 c.1 c.2
/-- The vertex k against the edge i. -/
def okT (r : List (Int × Int)) (i k : Nat) : Bool := decide (k = i) || decide (k = (i + 1) % r.length) || decide (0 < turnP (vat r i) (vat r ((i + 1) % r.length)) (vat r k))
def edgeOk (r : List (Int × Int)) (i k : Nat) : Bool := (List.range' k (r.length - k)).all (okT r i)
def edgesOk (r : List (Int × Int)) (i : Nat) : Bool := (List.range' i (r.length - i)).all (fun i => edgeOk r i 0)
def convexB (r : List (Int × Int)) : Bool := decide (3 ≤ r.length) && decide (r.length ≤ 160) && !r.any farB && edgesOk r 0
theorem edgeOk_step {r : List (Int × Int)} {i k : Nat} (h : k < r.length) : edgeOk r i k = (okT r i k && edgeOk r i (k + 1)) := by
  unfold edgeOk
  rw [show r.length - k = (r.length - (k + 1)) + 1 by omega, List.range'_succ, List.all_cons]
theorem edgeOk_end {r : List (Int × Int)} {i k : Nat} (h : r.length ≤ k) : edgeOk r i k = true := by
  unfold edgeOk; rw [show r.length - k = 0 by omega]; rfl
theorem edgesOk_step {r : List (Int × Int)} {i : Nat} (h : i < r.length) : edgesOk r i = (edgeOk r i 0 && edgesOk r (i + 1)) := by
  unfold edgesOk
  rw [show r.length - i = (r.length - (i + 1)) + 1 by omega, List.range'_succ, List.all_cons]
theorem edgesOk_end {r : List (Int × Int)} {i : Nat} (h : r.length ≤ i) : edgesOk r i = true := by
  unfold edgesOk; rw [show r.length - i = 0 by omega]; rfl
theorem vat_eq {r : List (Int × Int)} {i : Nat} (h : i < r.length) : vat r i = r[i] := by
  unfold vat; rw [List.getD_eq_getElem?_getD, List.getElem?_eq_getElem h, Option.getD_some]

set_option maxRecDepth 100000 in
set_option maxHeartbeats 8000000 in
theorem convex_any (A : Option Addr) (c : Nat) (r : List (Int × Int)) (w : World) (h : IsVecs w A c r) (hlen : r.length < 4611686018427387904) :
    Gives Try.prog 38 #[.slice A r.length c] w (.bool (convexB r)) := by
  apply Gives.ret
  have C := fun W (hW : SinceOf w W) => near_any A c r W (h.of hW) hlen
  have H := Lib.hid h
  clear h
  unfold convexB
  by_cases h3 : r.length < 3
  · rw [show decide (3 ≤ r.length) = false from decide_eq_false (by omega)]
    go_enter Try.func38, Try.ntmps38
    go_wp2_with fail
    go_returns
    exact ⟨by simp, by (repeat (first | (with_reducible exact LaterOf.refl _) | (with_reducible refine LaterOf.alloc ?_ _) | (with_reducible refine LaterOf.drew ?_) | (with_reducible refine LaterOf.drewN ?_ _) | (with_reducible refine LaterOf.later ?_ _) | (with_reducible refine LaterOf.setCell ?_ (by first | exact Nat.le_refl _ | (simp; done) | omega | (simp; omega)) _)))⟩
  · rw [show decide (3 ≤ r.length) = true from decide_eq_true (by omega)]
    by_cases h160 : 160 < r.length
    · rw [show decide (r.length ≤ 160) = false from decide_eq_false (by omega)]
      go_enter Try.func38, Try.ntmps38
      go_wp2_with fail
      go_returns
      exact ⟨by simp, by (repeat (first | (with_reducible exact LaterOf.refl _) | (with_reducible refine LaterOf.alloc ?_ _) | (with_reducible refine LaterOf.drew ?_) | (with_reducible refine LaterOf.drewN ?_ _) | (with_reducible refine LaterOf.later ?_ _) | (with_reducible refine LaterOf.setCell ?_ (by first | exact Nat.le_refl _ | (simp; done) | omega | (simp; omega)) _)))⟩
    · rw [show decide (r.length ≤ 160) = true from decide_eq_true (by omega)]
      generalize hv : (r.any farB) = v at *
      cases v
      · rw [show (true && true && !false && edgesOk r 0) = edgesOk r 0 from by simp]
        clear hv
        go_enter Try.func38, Try.ntmps38
        go_wp2_with fail
        refine (C _ (by (repeat (first | (with_reducible exact SinceOf.refl _) | (with_reducible assumption) | (with_reducible refine SinceOf.alloc ?_ _) | (with_reducible refine SinceOf.drew ?_) | (with_reducible refine SinceOf.drewN ?_ _) | (with_reducible refine SinceOf.later ?_ _) | (with_reducible refine SinceOf.further ?_ _) | (with_reducible refine SinceOf.setCell ?_ (by first | exact Nat.le_refl _ | (simp; done) | omega | (simp; omega)) _))))).calls.mono ?_
        rintro e _ ⟨rfl, x0, rfl⟩
        clear C
        go_wp2_with fail
        go_loopg [23] r.length (fun gas s1 wr => ∃ i : Nat, i ≤ r.length ∧ r.length - i ≤ gas ∧ s1 = .int .i64 i ∧ LaterOf w wr ∧ edgesOk r 0 = edgesOk r i)
        case atStart => exact ⟨0, by omega, by omega, rfl, by (repeat (first | (with_reducible exact LaterOf.refl _) | (with_reducible refine LaterOf.alloc ?_ _) | (with_reducible refine LaterOf.drew ?_) | (with_reducible refine LaterOf.drewN ?_ _) | (with_reducible refine LaterOf.later ?_ _) | (with_reducible refine LaterOf.setCell ?_ (by first | exact Nat.le_refl _ | (simp; done) | omega | (simp; omega)) _))), rfl⟩
        case round =>
          obtain ⟨i, hi, hgas, rfl, ⟨z, rfl⟩, hall⟩ := hrel
          by_cases hlt : i < r.length
          · rw [edgesOk_step hlt] at hall
            have hr0 := H.out.of (w' := z.wd) (by (repeat (first | (with_reducible exact SinceOf.refl _) | (with_reducible assumption) | (with_reducible refine SinceOf.alloc ?_ _) | (with_reducible refine SinceOf.drew ?_) | (with_reducible refine SinceOf.drewN ?_ _) | (with_reducible refine SinceOf.later ?_ _) | (with_reducible refine SinceOf.further ?_ _) | (with_reducible refine SinceOf.setCell ?_ (by first | exact Nat.le_refl _ | (simp; done) | omega | (simp; omega)) _))))
            obtain ⟨g, off, rfl, hr⟩ := hr0.at_ (by omega)
            have hO := hr.there
            have hq : (i + 1) % r.length < r.length := Nat.mod_lt _ (by omega)
            have a0 := hr.v0 i hlt
            have a1 := hr.v1 i hlt
            have b0 := hr.v0 _ hq
            have b1 := hr.v1 _ hq
            have va : vat r i = r[i] := vat_eq hlt
            have vb : vat r ((i + 1) % r.length) = r[(i + 1) % r.length] := vat_eq hq
            have hqi : ((i : Int) + 1) % (r.length : Int) = (((i + 1) % r.length : Nat) : Int) := by rw [Int.natCast_emod, Int.natCast_add]; rfl
            have hqt : Int.tmod ((i : Int) + 1) (r.length : Int) = (((i + 1) % r.length : Nat) : Int) := by rw [Int.tmod_eq_emod_of_nonneg (by omega)]; exact hqi
            have hok : ∀ k, okT r i k = (decide (k = i) || decide (k = (i + 1) % r.length) || decide (0 < turnP (vat r i) (vat r ((i + 1) % r.length)) (vat r k))) := fun _ => rfl
            rw [va, vb] at hok
            generalize r[(i + 1) % r.length] = pb at *
            generalize (i + 1) % r.length = q at *
            generalize hpa : r[i] = pa at *
            obtain ⟨xa, ya⟩ := pa
            obtain ⟨xb, yb⟩ := pb
            simp only at a0 a1 b0 b1
            have hn0 : ¬ (r.length : Int) = 0 := by omega
            have hw1 : IntKind.i64.wrap ((i : Int) + 1) = (i : Int) + 1 := IntWalk.i64_in _ (by omega)
            have HA := Lib.hid (And.intro hall (And.intro hok (And.intro hqt hw1)))
            clear hall hok va vb hpa hqt hw1 hr hr0 
            go_wp2_with fail
            rw [hqi]
            clear hqi
            go_loopg [35] r.length (fun gas2 s2 wr => ∃ k : Nat, k ≤ r.length ∧ r.length - k ≤ gas2 ∧ s2 = .int .i64 k ∧ LaterOf (z.wd.alloc (.cells #[.int .i64 xa, .int .i64 ya] 32)) wr ∧ edgeOk r i 0 = edgeOk r i k)
            case atStart => exact ⟨0, by omega, by omega, rfl, by (repeat (first | (with_reducible exact LaterOf.refl _) | (with_reducible refine LaterOf.alloc ?_ _) | (with_reducible refine LaterOf.drew ?_) | (with_reducible refine LaterOf.drewN ?_ _) | (with_reducible refine LaterOf.later ?_ _) | (with_reducible refine LaterOf.setCell ?_ (by first | exact Nat.le_refl _ | (simp; done) | omega | (simp; omega)) _))), rfl⟩
            case round =>
              obtain ⟨k, hk, hgas2, rfl, ⟨z2, rfl⟩, hin⟩ := hrel
              by_cases hkl : k < r.length
              · rw [edgeOk_step hkl, HA.out.2.1] at hin
                have hr1 := H.out.of (w' := z.wd) (by (repeat (first | (with_reducible exact SinceOf.refl _) | (with_reducible assumption) | (with_reducible refine SinceOf.alloc ?_ _) | (with_reducible refine SinceOf.drew ?_) | (with_reducible refine SinceOf.drewN ?_ _) | (with_reducible refine SinceOf.later ?_ _) | (with_reducible refine SinceOf.further ?_ _) | (with_reducible refine SinceOf.setCell ?_ (by first | exact Nat.le_refl _ | (simp; done) | omega | (simp; omega)) _))))
                obtain ⟨g', off', he, hr⟩ := hr1.at_ (by omega)
                injection he with he
                injection he with hg1 ho1
                subst hg1 ho1
                have c0 := hr.v0 k hkl
                have c1 := hr.v1 k hkl
                rw [vat_eq hkl] at hin
                generalize r[k] = pc at *
                obtain ⟨xc, yc⟩ := pc
                simp only at c0 c1
                have T := turn_any xa ya xb yb xc yc
                rw [show turnP (xa, ya) (xb, yb) (xc, yc) = turnI xa ya xb yb xc yc from rfl] at hin
                generalize turnI xa ya xb yb xc yc = t at *
                clear hr hr1
                have hcase : (k = i ∧ edgeOk r i 0 = edgeOk r i (k + 1)) ∨ (k ≠ i ∧ k = q ∧ edgeOk r i 0 = edgeOk r i (k + 1)) ∨ (k ≠ i ∧ k ≠ q ∧ 0 < t ∧ edgeOk r i 0 = edgeOk r i (k + 1)) ∨ (k ≠ i ∧ k ≠ q ∧ t ≤ 0 ∧ edgeOk r i 0 = false) := by
                  by_cases k1 : k = i
                  · exact .inl ⟨k1, by rw [hin, decide_eq_true k1]; simp⟩
                  · by_cases k2 : k = q
                    · exact .inr (.inl ⟨k1, k2, by rw [hin, decide_eq_true k2]; simp⟩)
                    · by_cases k3 : 0 < t
                      · exact .inr (.inr (.inl ⟨k1, k2, k3, by rw [hin, decide_eq_true k3]; simp⟩))
                      · exact .inr (.inr (.inr ⟨k1, k2, by omega, by rw [hin, decide_eq_false k1, decide_eq_false k2, decide_eq_false k3]; rfl⟩))
                clear hin
                rcases hcase with ⟨k1, hin⟩ | ⟨k1, k2, hin⟩ | ⟨k1, k2, k3, hin⟩ | ⟨k1, k2, k3, hin⟩
                · subst k1
                  have HB := Lib.hid hin
                  clear hin
                  have e1 : ((k : Int) != (k : Int)) = false := by simp
                  go_wp2_with fail
                  refine region_later (by kernel_rfl) (by kernel_rfl) ?_
                  repeat (go_big_quiet_step (fail))
                  refine wpQuiet_nil ?_
                  rintro _ ⟨z4, rfl⟩
                  go_wp2_with fail
                  go_roundg (r.length - (k + 1))
                  case measure => omega
                  case rel => exact ⟨k + 1, hkl, Nat.le_refl _, by go_num, by (repeat (first | (with_reducible exact LaterOf.refl _) | (with_reducible refine LaterOf.alloc ?_ _) | (with_reducible refine LaterOf.drew ?_) | (with_reducible refine LaterOf.drewN ?_ _) | (with_reducible refine LaterOf.later ?_ _) | (with_reducible refine LaterOf.setCell ?_ (by first | exact Nat.le_refl _ | (simp; done) | omega | (simp; omega)) _))), HB.out⟩
                · subst k2
                  have HB := Lib.hid hin
                  have e1 : ((k : Int) != (i : Int)) = true := by simp; omega
                  have e2 : ((k : Int) != (k : Int)) = false := by simp
                  clear hin k1
                  go_wp2_with fail
                  refine region_later (by kernel_rfl) (by kernel_rfl) ?_
                  repeat (go_big_quiet_step (fail))
                  refine wpQuiet_nil ?_
                  rintro _ ⟨z4, rfl⟩
                  go_wp2_with fail
                  go_roundg (r.length - (k + 1))
                  case measure => omega
                  case rel => exact ⟨k + 1, hkl, Nat.le_refl _, by go_num, by (repeat (first | (with_reducible exact LaterOf.refl _) | (with_reducible refine LaterOf.alloc ?_ _) | (with_reducible refine LaterOf.drew ?_) | (with_reducible refine LaterOf.drewN ?_ _) | (with_reducible refine LaterOf.later ?_ _) | (with_reducible refine LaterOf.setCell ?_ (by first | exact Nat.le_refl _ | (simp; done) | omega | (simp; omega)) _))), HB.out⟩
                · have HB := Lib.hid hin
                  have e1 : ((k : Int) != (i : Int)) = true := by simp; omega
                  have e2 : ((k : Int) != (q : Int)) = true := by simp; omega
                  have e3 : decide (t ≤ 0) = false := decide_eq_false (by omega)
                  clear hin k1 k2
                  go_wp2_with fail
                  refine region_later (by kernel_rfl) (by kernel_rfl) ?_
                  repeat (go_big_quiet_step ((with_reducible refine Gives.later (T _))))
                  refine wpQuiet_nil ?_
                  rintro _ ⟨z4, rfl⟩
                  go_wp2_with fail
                  go_roundg (r.length - (k + 1))
                  case measure => omega
                  case rel => exact ⟨k + 1, hkl, Nat.le_refl _, by go_num, by (repeat (first | (with_reducible exact LaterOf.refl _) | (with_reducible refine LaterOf.alloc ?_ _) | (with_reducible refine LaterOf.drew ?_) | (with_reducible refine LaterOf.drewN ?_ _) | (with_reducible refine LaterOf.later ?_ _) | (with_reducible refine LaterOf.setCell ?_ (by first | exact Nat.le_refl _ | (simp; done) | omega | (simp; omega)) _))), HB.out⟩
                · have HB := Lib.hid hin
                  have e1 : ((k : Int) != (i : Int)) = true := by simp; omega
                  have e2 : ((k : Int) != (q : Int)) = true := by simp; omega
                  have e3 : decide (t ≤ 0) = true := decide_eq_true (by omega)
                  clear hin k1 k2
                  go_wp2_with fail
                  refine region_later (by kernel_rfl) (by kernel_rfl) ?_
                  repeat (go_big_quiet_step ((with_reducible refine Gives.later (T _))))
                  refine wpQuiet_nil ?_
                  rintro _ ⟨z4, rfl⟩
                  go_wp2_with fail
                  go_returns
                  exact ⟨by rw [HA.out.1, HB.out]; rfl, by (repeat (first | (with_reducible exact LaterOf.refl _) | (with_reducible refine LaterOf.alloc ?_ _) | (with_reducible refine LaterOf.drew ?_) | (with_reducible refine LaterOf.drewN ?_ _) | (with_reducible refine LaterOf.later ?_ _) | (with_reducible refine LaterOf.setCell ?_ (by first | exact Nat.le_refl _ | (simp; done) | omega | (simp; omega)) _)))⟩
              · have hkl2 : k = r.length := by omega
                rw [hkl2, edgeOk_end (Nat.le_refl _)] at hin
                have HB := Lib.hid hin
                clear hin hkl2
                go_wp2_with fail
                go_roundg (r.length - (i + 1))
                case measure => omega
                case rel => exact ⟨i + 1, hlt, Nat.le_refl _, by go_num, by (repeat (first | (with_reducible exact LaterOf.refl _) | (with_reducible refine LaterOf.alloc ?_ _) | (with_reducible refine LaterOf.drew ?_) | (with_reducible refine LaterOf.drewN ?_ _) | (with_reducible refine LaterOf.later ?_ _) | (with_reducible refine LaterOf.setCell ?_ (by first | exact Nat.le_refl _ | (simp; done) | omega | (simp; omega)) _))), by rw [HA.out.1, HB.out, Bool.true_and]⟩
          · have hil : i = r.length := by omega
            rw [hil, edgesOk_end (Nat.le_refl _)] at hall
            have HA := Lib.hid hall
            clear hall hil
            go_wp2_with fail
            go_returns
            exact ⟨by rw [HA.out]; rfl, by (repeat (first | (with_reducible exact LaterOf.refl _) | (with_reducible refine LaterOf.alloc ?_ _) | (with_reducible refine LaterOf.drew ?_) | (with_reducible refine LaterOf.drewN ?_ _) | (with_reducible refine LaterOf.later ?_ _) | (with_reducible refine LaterOf.setCell ?_ (by first | exact Nat.le_refl _ | (simp; done) | omega | (simp; omega)) _)))⟩
      · rw [show (true && true && !true && edgesOk r 0) = false from rfl]
        clear hv
        go_enter Try.func38, Try.ntmps38
        go_wp2_with fail
        refine (C _ (by (repeat (first | (with_reducible exact SinceOf.refl _) | (with_reducible assumption) | (with_reducible refine SinceOf.alloc ?_ _) | (with_reducible refine SinceOf.drew ?_) | (with_reducible refine SinceOf.drewN ?_ _) | (with_reducible refine SinceOf.later ?_ _) | (with_reducible refine SinceOf.further ?_ _) | (with_reducible refine SinceOf.setCell ?_ (by first | exact Nat.le_refl _ | (simp; done) | omega | (simp; omega)) _))))).calls.mono ?_
        rintro e _ ⟨rfl, x0, rfl⟩
        clear C
        go_wp2_with fail
        go_returns
        exact ⟨rfl, by (repeat (first | (with_reducible exact LaterOf.refl _) | (with_reducible refine LaterOf.alloc ?_ _) | (with_reducible refine LaterOf.drew ?_) | (with_reducible refine LaterOf.drewN ?_ _) | (with_reducible refine LaterOf.later ?_ _) | (with_reducible refine LaterOf.setCell ?_ (by first | exact Nat.le_refl _ | (simp; done) | omega | (simp; omega)) _)))⟩
set_option maxRecDepth 100000 in
set_option maxHeartbeats 8000000 in
theorem refConvex_any (A : Option Addr) (c : Nat) (r : List (Int × Int)) (w : World) (h : IsVecs w A c r) (hlen : r.length < 4611686018427387904) :
    Gives Try.prog 39 #[.slice A r.length c] w (.bool (convexB r)) := by
  apply Gives.ret
  have C := fun W (hW : SinceOf w W) => refNear_any A c r W (h.of hW) hlen
  have H := Lib.hid h
  clear h
  unfold convexB
  by_cases h3 : r.length < 3
  · rw [show decide (3 ≤ r.length) = false from decide_eq_false (by omega)]
    go_enter Try.func39, Try.ntmps39
    go_wp2_with fail
    go_returns
    exact ⟨by simp, by (repeat (first | (with_reducible exact LaterOf.refl _) | (with_reducible refine LaterOf.alloc ?_ _) | (with_reducible refine LaterOf.drew ?_) | (with_reducible refine LaterOf.drewN ?_ _) | (with_reducible refine LaterOf.later ?_ _) | (with_reducible refine LaterOf.setCell ?_ (by first | exact Nat.le_refl _ | (simp; done) | omega | (simp; omega)) _)))⟩
  · rw [show decide (3 ≤ r.length) = true from decide_eq_true (by omega)]
    by_cases h160 : 160 < r.length
    · rw [show decide (r.length ≤ 160) = false from decide_eq_false (by omega)]
      go_enter Try.func39, Try.ntmps39
      go_wp2_with fail
      go_returns
      exact ⟨by simp, by (repeat (first | (with_reducible exact LaterOf.refl _) | (with_reducible refine LaterOf.alloc ?_ _) | (with_reducible refine LaterOf.drew ?_) | (with_reducible refine LaterOf.drewN ?_ _) | (with_reducible refine LaterOf.later ?_ _) | (with_reducible refine LaterOf.setCell ?_ (by first | exact Nat.le_refl _ | (simp; done) | omega | (simp; omega)) _)))⟩
    · rw [show decide (r.length ≤ 160) = true from decide_eq_true (by omega)]
      generalize hv : (r.any farB) = v at *
      cases v
      · rw [show (true && true && !false && edgesOk r 0) = edgesOk r 0 from by simp]
        clear hv
        go_enter Try.func39, Try.ntmps39
        go_wp2_with fail
        refine (C _ (by (repeat (first | (with_reducible exact SinceOf.refl _) | (with_reducible assumption) | (with_reducible refine SinceOf.alloc ?_ _) | (with_reducible refine SinceOf.drew ?_) | (with_reducible refine SinceOf.drewN ?_ _) | (with_reducible refine SinceOf.later ?_ _) | (with_reducible refine SinceOf.further ?_ _) | (with_reducible refine SinceOf.setCell ?_ (by first | exact Nat.le_refl _ | (simp; done) | omega | (simp; omega)) _))))).calls.mono ?_
        rintro e _ ⟨rfl, x0, rfl⟩
        clear C
        go_wp2_with fail
        go_loopg [4] r.length (fun gas s1 wr => ∃ i : Nat, i ≤ r.length ∧ r.length - i ≤ gas ∧ s1 = .int .i64 i ∧ LaterOf w wr ∧ edgesOk r 0 = edgesOk r i)
        case atStart => exact ⟨0, by omega, by omega, rfl, by (repeat (first | (with_reducible exact LaterOf.refl _) | (with_reducible refine LaterOf.alloc ?_ _) | (with_reducible refine LaterOf.drew ?_) | (with_reducible refine LaterOf.drewN ?_ _) | (with_reducible refine LaterOf.later ?_ _) | (with_reducible refine LaterOf.setCell ?_ (by first | exact Nat.le_refl _ | (simp; done) | omega | (simp; omega)) _))), rfl⟩
        case round =>
          obtain ⟨i, hi, hgas, rfl, ⟨z, rfl⟩, hall⟩ := hrel
          by_cases hlt : i < r.length
          · rw [edgesOk_step hlt] at hall
            have hr0 := H.out.of (w' := z.wd) (by (repeat (first | (with_reducible exact SinceOf.refl _) | (with_reducible assumption) | (with_reducible refine SinceOf.alloc ?_ _) | (with_reducible refine SinceOf.drew ?_) | (with_reducible refine SinceOf.drewN ?_ _) | (with_reducible refine SinceOf.later ?_ _) | (with_reducible refine SinceOf.further ?_ _) | (with_reducible refine SinceOf.setCell ?_ (by first | exact Nat.le_refl _ | (simp; done) | omega | (simp; omega)) _))))
            obtain ⟨g, off, rfl, hr⟩ := hr0.at_ (by omega)
            have hO := hr.there
            have hq : (i + 1) % r.length < r.length := Nat.mod_lt _ (by omega)
            have a0 := hr.v0 i hlt
            have a1 := hr.v1 i hlt
            have b0 := hr.v0 _ hq
            have b1 := hr.v1 _ hq
            have va : vat r i = r[i] := vat_eq hlt
            have vb : vat r ((i + 1) % r.length) = r[(i + 1) % r.length] := vat_eq hq
            have hqi : ((i : Int) + 1) % (r.length : Int) = (((i + 1) % r.length : Nat) : Int) := by rw [Int.natCast_emod, Int.natCast_add]; rfl
            have hqt : Int.tmod ((i : Int) + 1) (r.length : Int) = (((i + 1) % r.length : Nat) : Int) := by rw [Int.tmod_eq_emod_of_nonneg (by omega)]; exact hqi
            have hok : ∀ k, okT r i k = (decide (k = i) || decide (k = (i + 1) % r.length) || decide (0 < turnP (vat r i) (vat r ((i + 1) % r.length)) (vat r k))) := fun _ => rfl
            rw [va, vb] at hok
            generalize r[(i + 1) % r.length] = pb at *
            generalize (i + 1) % r.length = q at *
            generalize hpa : r[i] = pa at *
            obtain ⟨xa, ya⟩ := pa
            obtain ⟨xb, yb⟩ := pb
            simp only at a0 a1 b0 b1
            have hn0 : ¬ (r.length : Int) = 0 := by omega
            have hw1 : IntKind.i64.wrap ((i : Int) + 1) = (i : Int) + 1 := IntWalk.i64_in _ (by omega)
            have HA := Lib.hid (And.intro hall (And.intro hok (And.intro hqt hw1)))
            clear hall hok va vb hpa hqt hw1 hr hr0 
            go_wp2_with fail
            have HQI := Lib.hid hqi
            clear hqi
            go_loopg [5] r.length (fun gas2 s2 wr => ∃ k : Nat, k ≤ r.length ∧ r.length - k ≤ gas2 ∧ s2 = .int .i64 k ∧ LaterOf z.wd wr ∧ edgeOk r i 0 = edgeOk r i k)
            case atStart => exact ⟨0, by omega, by omega, rfl, by (repeat (first | (with_reducible exact LaterOf.refl _) | (with_reducible refine LaterOf.alloc ?_ _) | (with_reducible refine LaterOf.drew ?_) | (with_reducible refine LaterOf.drewN ?_ _) | (with_reducible refine LaterOf.later ?_ _) | (with_reducible refine LaterOf.setCell ?_ (by first | exact Nat.le_refl _ | (simp; done) | omega | (simp; omega)) _))), rfl⟩
            case round =>
              obtain ⟨k, hk, hgas2, rfl, ⟨z2, rfl⟩, hin⟩ := hrel
              by_cases hkl : k < r.length
              · rw [edgeOk_step hkl, HA.out.2.1] at hin
                have hr1 := H.out.of (w' := z.wd) (by (repeat (first | (with_reducible exact SinceOf.refl _) | (with_reducible assumption) | (with_reducible refine SinceOf.alloc ?_ _) | (with_reducible refine SinceOf.drew ?_) | (with_reducible refine SinceOf.drewN ?_ _) | (with_reducible refine SinceOf.later ?_ _) | (with_reducible refine SinceOf.further ?_ _) | (with_reducible refine SinceOf.setCell ?_ (by first | exact Nat.le_refl _ | (simp; done) | omega | (simp; omega)) _))))
                obtain ⟨g', off', he, hr⟩ := hr1.at_ (by omega)
                injection he with he
                injection he with hg1 ho1
                subst hg1 ho1
                have c0 := hr.v0 k hkl
                have c1 := hr.v1 k hkl
                rw [vat_eq hkl] at hin
                generalize r[k] = pc at *
                obtain ⟨xc, yc⟩ := pc
                simp only at c0 c1
                have T := refTurn_any xa ya xb yb xc yc
                rw [show turnP (xa, ya) (xb, yb) (xc, yc) = turnI xa ya xb yb xc yc from rfl] at hin
                generalize turnI xa ya xb yb xc yc = t at *
                clear hr hr1
                have hcase : (k = i ∧ edgeOk r i 0 = edgeOk r i (k + 1)) ∨ (k ≠ i ∧ k = q ∧ edgeOk r i 0 = edgeOk r i (k + 1)) ∨ (k ≠ i ∧ k ≠ q ∧ 0 < t ∧ edgeOk r i 0 = edgeOk r i (k + 1)) ∨ (k ≠ i ∧ k ≠ q ∧ t ≤ 0 ∧ edgeOk r i 0 = false) := by
                  by_cases k1 : k = i
                  · exact .inl ⟨k1, by rw [hin, decide_eq_true k1]; simp⟩
                  · by_cases k2 : k = q
                    · exact .inr (.inl ⟨k1, k2, by rw [hin, decide_eq_true k2]; simp⟩)
                    · by_cases k3 : 0 < t
                      · exact .inr (.inr (.inl ⟨k1, k2, k3, by rw [hin, decide_eq_true k3]; simp⟩))
                      · exact .inr (.inr (.inr ⟨k1, k2, by omega, by rw [hin, decide_eq_false k1, decide_eq_false k2, decide_eq_false k3]; rfl⟩))
                clear hin
                rcases hcase with ⟨k1, hin⟩ | ⟨k1, k2, hin⟩ | ⟨k1, k2, k3, hin⟩ | ⟨k1, k2, k3, hin⟩
                · subst k1
                  have HB := Lib.hid hin
                  clear hin
                  have e1 : ((k : Int) != (k : Int)) = false := by simp
                  go_wp2_with fail
                  refine region_later (by kernel_rfl) (by kernel_rfl) ?_
                  repeat (go_big_quiet_step (fail))
                  refine wpQuiet_nil ?_
                  rintro _ ⟨z4, rfl⟩
                  go_wp2_with fail
                  go_roundg (r.length - (k + 1))
                  case measure => omega
                  case rel => exact ⟨k + 1, hkl, Nat.le_refl _, by go_num, by (repeat (first | (with_reducible exact LaterOf.refl _) | (with_reducible refine LaterOf.alloc ?_ _) | (with_reducible refine LaterOf.drew ?_) | (with_reducible refine LaterOf.drewN ?_ _) | (with_reducible refine LaterOf.later ?_ _) | (with_reducible refine LaterOf.setCell ?_ (by first | exact Nat.le_refl _ | (simp; done) | omega | (simp; omega)) _))), HB.out⟩
                · subst k2
                  have HB := Lib.hid hin
                  have e1 : ((k : Int) != (i : Int)) = true := by simp; omega
                  have e2 : ((k : Int) != (k : Int)) = false := by simp
                  have w1 := HA.out.2.2.2
                  have w2 := HA.out.2.2.1
                  clear hin k1
                  go_wp2_with fail
                  refine region_later (by kernel_rfl) (by kernel_rfl) ?_
                  repeat (go_big_quiet_step (fail))
                  refine wpQuiet_nil ?_
                  rintro _ ⟨z4, rfl⟩
                  clear w1 w2
                  go_wp2_with fail
                  go_roundg (r.length - (k + 1))
                  case measure => omega
                  case rel => exact ⟨k + 1, hkl, Nat.le_refl _, by go_num, by (repeat (first | (with_reducible exact LaterOf.refl _) | (with_reducible refine LaterOf.alloc ?_ _) | (with_reducible refine LaterOf.drew ?_) | (with_reducible refine LaterOf.drewN ?_ _) | (with_reducible refine LaterOf.later ?_ _) | (with_reducible refine LaterOf.setCell ?_ (by first | exact Nat.le_refl _ | (simp; done) | omega | (simp; omega)) _))), HB.out⟩
                · have HB := Lib.hid hin
                  have e1 : ((k : Int) != (i : Int)) = true := by simp; omega
                  have e2 : ((k : Int) != (q : Int)) = true := by simp; omega
                  have e3 : decide (t ≤ 0) = false := decide_eq_false (by omega)
                  have w1 := HA.out.2.2.2
                  have w2 := HA.out.2.2.1
                  clear hin k1 k2
                  go_wp2_with fail
                  refine region_later (by kernel_rfl) (by kernel_rfl) ?_
                  repeat (go_big_quiet_step ((with_reducible refine Gives.later (T _))))
                  refine wpQuiet_nil ?_
                  rintro _ ⟨z4, rfl⟩
                  clear w1 w2
                  go_wp2_with fail
                  go_roundg (r.length - (k + 1))
                  case measure => omega
                  case rel => exact ⟨k + 1, hkl, Nat.le_refl _, by go_num, by (repeat (first | (with_reducible exact LaterOf.refl _) | (with_reducible refine LaterOf.alloc ?_ _) | (with_reducible refine LaterOf.drew ?_) | (with_reducible refine LaterOf.drewN ?_ _) | (with_reducible refine LaterOf.later ?_ _) | (with_reducible refine LaterOf.setCell ?_ (by first | exact Nat.le_refl _ | (simp; done) | omega | (simp; omega)) _))), HB.out⟩
                · have HB := Lib.hid hin
                  have e1 : ((k : Int) != (i : Int)) = true := by simp; omega
                  have e2 : ((k : Int) != (q : Int)) = true := by simp; omega
                  have e3 : decide (t ≤ 0) = true := decide_eq_true (by omega)
                  have w1 := HA.out.2.2.2
                  have w2 := HA.out.2.2.1
                  clear hin k1 k2
                  go_wp2_with fail
                  refine region_later (by kernel_rfl) (by kernel_rfl) ?_
                  repeat (go_big_quiet_step ((with_reducible refine Gives.later (T _))))
                  refine wpQuiet_nil ?_
                  rintro _ ⟨z4, rfl⟩
                  clear w1 w2
                  go_wp2_with fail
                  go_returns
                  exact ⟨by rw [HA.out.1, HB.out]; rfl, by (repeat (first | (with_reducible exact LaterOf.refl _) | (with_reducible refine LaterOf.alloc ?_ _) | (with_reducible refine LaterOf.drew ?_) | (with_reducible refine LaterOf.drewN ?_ _) | (with_reducible refine LaterOf.later ?_ _) | (with_reducible refine LaterOf.setCell ?_ (by first | exact Nat.le_refl _ | (simp; done) | omega | (simp; omega)) _)))⟩
              · have hkl2 : k = r.length := by omega
                rw [hkl2, edgeOk_end (Nat.le_refl _)] at hin
                have HB := Lib.hid hin
                clear hin hkl2
                go_wp2_with fail
                go_roundg (r.length - (i + 1))
                case measure => omega
                case rel => exact ⟨i + 1, hlt, Nat.le_refl _, by go_num, by (repeat (first | (with_reducible exact LaterOf.refl _) | (with_reducible refine LaterOf.alloc ?_ _) | (with_reducible refine LaterOf.drew ?_) | (with_reducible refine LaterOf.drewN ?_ _) | (with_reducible refine LaterOf.later ?_ _) | (with_reducible refine LaterOf.setCell ?_ (by first | exact Nat.le_refl _ | (simp; done) | omega | (simp; omega)) _))), by rw [HA.out.1, HB.out, Bool.true_and]⟩
          · have hil : i = r.length := by omega
            rw [hil, edgesOk_end (Nat.le_refl _)] at hall
            have HA := Lib.hid hall
            clear hall hil
            go_wp2_with fail
            go_returns
            exact ⟨by rw [HA.out]; rfl, by (repeat (first | (with_reducible exact LaterOf.refl _) | (with_reducible refine LaterOf.alloc ?_ _) | (with_reducible refine LaterOf.drew ?_) | (with_reducible refine LaterOf.drewN ?_ _) | (with_reducible refine LaterOf.later ?_ _) | (with_reducible refine LaterOf.setCell ?_ (by first | exact Nat.le_refl _ | (simp; done) | omega | (simp; omega)) _)))⟩
      · rw [show (true && true && !true && edgesOk r 0) = false from rfl]
        clear hv
        go_enter Try.func39, Try.ntmps39
        go_wp2_with fail
        refine (C _ (by (repeat (first | (with_reducible exact SinceOf.refl _) | (with_reducible assumption) | (with_reducible refine SinceOf.alloc ?_ _) | (with_reducible refine SinceOf.drew ?_) | (with_reducible refine SinceOf.drewN ?_ _) | (with_reducible refine SinceOf.later ?_ _) | (with_reducible refine SinceOf.further ?_ _) | (with_reducible refine SinceOf.setCell ?_ (by first | exact Nat.le_refl _ | (simp; done) | omega | (simp; omega)) _))))).calls.mono ?_
        rintro e _ ⟨rfl, x0, rfl⟩
        clear C
        go_wp2_with fail
        go_returns
        exact ⟨rfl, by (repeat (first | (with_reducible exact LaterOf.refl _) | (with_reducible refine LaterOf.alloc ?_ _) | (with_reducible refine LaterOf.drew ?_) | (with_reducible refine LaterOf.drewN ?_ _) | (with_reducible refine LaterOf.later ?_ _) | (with_reducible refine LaterOf.setCell ?_ (by first | exact Nat.le_refl _ | (simp; done) | omega | (simp; omega)) _)))⟩
end Go.Proofs.Yticmfmcflikneaa
