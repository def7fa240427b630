/- Layer 18: separated of both: whether an edge of a ring has all of another one on its right side. -/
import Derived.Test.YticmfmcflikneaaHull23
namespace Go.Proofs.Yticmfmcflikneaa
open Go.RowKit Go.Sort
set_option linter.unusedVariables false
set_option linter.unusedSimpArgs false
attribute [local go_sem ↓] Go.wp_at_zero Go.wp_at_succ

def rightP (a b p : Pt) : Bool := decide (turnP a b p ≤ 0)
def sepE (r s : List Pt) (i : Nat) : Bool := s.all (rightP (vat r i) (vat r ((i + 1) % r.length)))
def sepB (r s : List Pt) : Bool := (List.range' 0 r.length).any (sepE r s)
theorem all_dropP (p : Pt → Bool) {l : List Pt} {k : Nat} (h : k < l.length) : (l.drop k).all p = (p l[k] && (l.drop (k + 1)).all p) := by
  rw [List.drop_eq_getElem_cons h, List.all_cons]
set_option maxRecDepth 100000 in
set_option maxHeartbeats 16000000 in
theorem refSeparated_any (A B : Option Addr) (c d : Nat) (r s : List (Int × Int)) (w : World) (h : IsVecs w A c r) (k : IsVecs w B d s) (hlen : r.length < 4611686018427387904) (hlen2 : s.length < 4611686018427387904) :
    Gives Try.prog 90 #[.slice A r.length c, .slice B s.length d] w (.bool (sepB r s)) := by
  apply Gives.ret
  have H := Lib.hid (And.intro h k)
  clear h k
  unfold sepB
  go_enter Try.func90, Try.ntmps90
  go_wp2_with fail
  go_loopg [5] r.length (fun gas s5 wr => ∃ i : Nat, i ≤ r.length ∧ r.length - i ≤ gas ∧ s5 = .int .i64 i ∧ LaterOf w wr ∧ (List.range' 0 r.length).any (sepE r s) = (List.range' i (r.length - i)).any (sepE r s))
  case atStart => exact ⟨0, by omega, by omega, rfl, by (repeat (first | (with_reducible exact LaterOf.refl _) | (with_reducible refine LaterOf.alloc ?_ _) | (with_reducible refine LaterOf.drew ?_) | (with_reducible refine LaterOf.drewN ?_ _) | (with_reducible refine LaterOf.later ?_ _) | (with_reducible refine LaterOf.setCell ?_ (by first | exact Nat.le_refl _ | (simp; done) | omega | (simp; omega)) _))), rfl⟩
  case round =>
    obtain ⟨i, hi, hgas, rfl, ⟨z, rfl⟩, hall⟩ := hrel
    by_cases hlt : i < r.length
    · rw [range_step hlt, List.any_cons] at hall
      have hr0 := H.out.1.of (w' := z.wd) (by (repeat (first | (with_reducible exact SinceOf.refl _) | (with_reducible assumption) | (with_reducible refine SinceOf.alloc ?_ _) | (with_reducible refine SinceOf.drew ?_) | (with_reducible refine SinceOf.drewN ?_ _) | (with_reducible refine SinceOf.later ?_ _) | (with_reducible refine SinceOf.further ?_ _) | (with_reducible refine SinceOf.setCell ?_ (by first | exact Nat.le_refl _ | (simp; done) | omega | (simp; omega)) _))))
      obtain ⟨g, off, rfl, hr⟩ := hr0.at_ (by omega)
      have hO := hr.there
      have hq : (i + 1) % r.length < r.length := Nat.mod_lt _ (by omega)
      have va : vat r i = r[i] := vat_eq hlt
      have vb : vat r ((i + 1) % r.length) = r[(i + 1) % r.length] := vat_eq hq
      have hqt : Int.tmod ((i : Int) + 1) (r.length : Int) = (((i + 1) % r.length : Nat) : Int) := by rw [Int.tmod_eq_emod_of_nonneg (by omega), Int.natCast_emod, Int.natCast_add]; rfl
      have hse : sepE r s i = s.all (rightP r[i] r[(i + 1) % r.length]) := by unfold sepE; rw [va, vb]
      rw [hse] at hall
      have HA := Lib.hid hall
      clear hall hse va vb hr hr0
      go_wp2_with fail
      go_loopg [6, 7] s.length (fun gas2 s6 s7 wr => ∃ (k : Nat) (b : Bool), k ≤ s.length ∧ s.length - k ≤ gas2 ∧ s6 = .bool b ∧ s7 = .int .i64 k ∧ LaterOf z.wd wr ∧ s.all (rightP r[i] r[(i + 1) % r.length]) = (b && (s.drop k).all (rightP r[i] r[(i + 1) % r.length])))
      case atStart => exact ⟨0, true, by omega, by omega, rfl, rfl, by (repeat (first | (with_reducible exact LaterOf.refl _) | (with_reducible refine LaterOf.alloc ?_ _) | (with_reducible refine LaterOf.drew ?_) | (with_reducible refine LaterOf.drewN ?_ _) | (with_reducible refine LaterOf.later ?_ _) | (with_reducible refine LaterOf.setCell ?_ (by first | exact Nat.le_refl _ | (simp; done) | omega | (simp; omega)) _))), by rw [List.drop_zero, Bool.true_and]⟩
      case round =>
        obtain ⟨k, b, hk, hgas2, rfl, rfl, ⟨z2, rfl⟩, hin⟩ := hrel
        by_cases hkl : k < s.length
        · rw [all_dropP _ hkl] at hin
          have hr1 := H.out.1.of (w' := z2.wd) (by (repeat (first | (with_reducible exact SinceOf.refl _) | (with_reducible assumption) | (with_reducible refine SinceOf.alloc ?_ _) | (with_reducible refine SinceOf.drew ?_) | (with_reducible refine SinceOf.drewN ?_ _) | (with_reducible refine SinceOf.later ?_ _) | (with_reducible refine SinceOf.further ?_ _) | (with_reducible refine SinceOf.setCell ?_ (by first | exact Nat.le_refl _ | (simp; done) | omega | (simp; omega)) _))))
          obtain ⟨g', off', he, hr⟩ := hr1.at_ (by omega)
          injection he with he
          injection he with hg1 ho1
          subst hg1 ho1
          have hs0 := H.out.2.of (w' := z2.wd) (by (repeat (first | (with_reducible exact SinceOf.refl _) | (with_reducible assumption) | (with_reducible refine SinceOf.alloc ?_ _) | (with_reducible refine SinceOf.drew ?_) | (with_reducible refine SinceOf.drewN ?_ _) | (with_reducible refine SinceOf.later ?_ _) | (with_reducible refine SinceOf.further ?_ _) | (with_reducible refine SinceOf.setCell ?_ (by first | exact Nat.le_refl _ | (simp; done) | omega | (simp; omega)) _))))
          obtain ⟨g3, off3, rfl, hs⟩ := hs0.at_ (by omega)
          have hO3 := hs.there
          have a0 := hr.v0 i hlt
          have a1 := hr.v1 i hlt
          have b0 := hr.v0 _ hq
          have b1 := hr.v1 _ hq
          have c0 := hs.v0 k hkl
          have c1 := hs.v1 k hkl
          generalize r[(i + 1) % r.length] = pb at *
          generalize (i + 1) % r.length = q at *
          generalize r[i] = pa at *
          generalize s[k] = pc at *
          obtain ⟨xa, ya⟩ := pa
          obtain ⟨xb, yb⟩ := pb
          obtain ⟨xc, yc⟩ := pc
          simp only at a0 a1 b0 b1 c0 c1
          have T := refTurn_any xa ya xb yb xc yc
          rw [show rightP (xa, ya) (xb, yb) (xc, yc) = decide (turnI xa ya xb yb xc yc ≤ 0) from rfl] at hin
          generalize turnI xa ya xb yb xc yc = t at *
          have hn0 : ¬ (r.length : Int) = 0 := by omega
          have hw1 : IntKind.i64.wrap ((i : Int) + 1) = (i : Int) + 1 := IntWalk.i64_in _ (by omega)
          clear hr hr1 hs hs0
          by_cases ht : 0 < t
          · rw [decide_eq_false (by omega), Bool.false_and] at hin
            have g1 : decide (0 < t) = true := decide_eq_true ht
            have HB := Lib.hid hin
            clear hin ht
            go_wp2_with fail
            refine region_later (by kernel_rfl) (by kernel_rfl) ?_
            repeat (go_big_quiet_step ((with_reducible refine Gives.later (T _))))
            refine wpQuiet_nil ?_
            rintro _ ⟨z4, rfl⟩
            clear hw1
            go_wp2_with fail
            go_roundg (s.length - (k + 1))
            case measure => omega
            case rel => exact ⟨k + 1, false, hkl, Nat.le_refl _, rfl, by go_num, by (repeat (first | (with_reducible exact LaterOf.refl _) | (with_reducible refine LaterOf.alloc ?_ _) | (with_reducible refine LaterOf.drew ?_) | (with_reducible refine LaterOf.drewN ?_ _) | (with_reducible refine LaterOf.later ?_ _) | (with_reducible refine LaterOf.setCell ?_ (by first | exact Nat.le_refl _ | (simp; done) | omega | (simp; omega)) _))), by rw [HB.out, Bool.and_false, Bool.false_and]⟩
          · rw [decide_eq_true (by omega), Bool.true_and] at hin
            have g1 : decide (0 < t) = false := decide_eq_false ht
            have HB := Lib.hid hin
            clear hin ht
            go_wp2_with fail
            refine region_later (by kernel_rfl) (by kernel_rfl) ?_
            repeat (go_big_quiet_step ((with_reducible refine Gives.later (T _))))
            refine wpQuiet_nil ?_
            rintro _ ⟨z4, rfl⟩
            clear hw1
            go_wp2_with fail
            go_roundg (s.length - (k + 1))
            case measure => omega
            case rel => exact ⟨k + 1, b, hkl, Nat.le_refl _, rfl, by go_num, by (repeat (first | (with_reducible exact LaterOf.refl _) | (with_reducible refine LaterOf.alloc ?_ _) | (with_reducible refine LaterOf.drew ?_) | (with_reducible refine LaterOf.drewN ?_ _) | (with_reducible refine LaterOf.later ?_ _) | (with_reducible refine LaterOf.setCell ?_ (by first | exact Nat.le_refl _ | (simp; done) | omega | (simp; omega)) _))), HB.out⟩
        · have hks : k = s.length := by omega
          subst hks
          rw [List.drop_length, List.all_nil, Bool.and_true] at hin
          rw [hin] at HA
          clear hin
          cases b
          · have HC := Lib.hid HA.out
            clear HA
            rw [Bool.false_or] at HC
            go_wp2_with fail
            go_roundg (r.length - (i + 1))
            case measure => omega
            case rel => exact ⟨i + 1, hlt, Nat.le_refl _, by go_num, by (repeat (first | (with_reducible exact LaterOf.refl _) | (with_reducible refine LaterOf.alloc ?_ _) | (with_reducible refine LaterOf.drew ?_) | (with_reducible refine LaterOf.drewN ?_ _) | (with_reducible refine LaterOf.later ?_ _) | (with_reducible refine LaterOf.setCell ?_ (by first | exact Nat.le_refl _ | (simp; done) | omega | (simp; omega)) _))), HC.out⟩
          · have HC := Lib.hid HA.out
            clear HA
            rw [Bool.true_or] at HC
            go_wp2_with fail
            go_returns
            exact ⟨by rw [HC.out]; rfl, by (repeat (first | (with_reducible exact LaterOf.refl _) | (with_reducible refine LaterOf.alloc ?_ _) | (with_reducible refine LaterOf.drew ?_) | (with_reducible refine LaterOf.drewN ?_ _) | (with_reducible refine LaterOf.later ?_ _) | (with_reducible refine LaterOf.setCell ?_ (by first | exact Nat.le_refl _ | (simp; done) | omega | (simp; omega)) _)))⟩
    · have hil : i = r.length := by omega
      subst hil
      rw [Nat.sub_self] at hall
      have HA := Lib.hid hall
      clear hall
      go_wp2_with fail
      go_returns
      exact ⟨by rw [HA.out]; rfl, by (repeat (first | (with_reducible exact LaterOf.refl _) | (with_reducible refine LaterOf.alloc ?_ _) | (with_reducible refine LaterOf.drew ?_) | (with_reducible refine LaterOf.drewN ?_ _) | (with_reducible refine LaterOf.later ?_ _) | (with_reducible refine LaterOf.setCell ?_ (by first | exact Nat.le_refl _ | (simp; done) | omega | (simp; omega)) _)))⟩
set_option maxRecDepth 100000 in
set_option maxHeartbeats 16000000 in
theorem separated_any (A B : Option Addr) (c d : Nat) (r s : List (Int × Int)) (w : World) (h : IsVecs w A c r) (k : IsVecs w B d s) (hlen : r.length < 4611686018427387904) (hlen2 : s.length < 4611686018427387904) :
    Gives Try.prog 82 #[.slice A r.length c, .slice B s.length d] w (.bool (sepB r s)) := by
  apply Gives.ret
  have H := Lib.hid (And.intro h k)
  clear h k
  unfold sepB
  go_enter Try.func82, Try.ntmps82
  go_wp2_with fail
  go_loopg [12] r.length (fun gas s5 wr => ∃ i : Nat, i ≤ r.length ∧ r.length - i ≤ gas ∧ s5 = .int .i64 i ∧ LaterOf w wr ∧ (List.range' 0 r.length).any (sepE r s) = (List.range' i (r.length - i)).any (sepE r s))
  case atStart => exact ⟨0, by omega, by omega, rfl, by (repeat (first | (with_reducible exact LaterOf.refl _) | (with_reducible refine LaterOf.alloc ?_ _) | (with_reducible refine LaterOf.drew ?_) | (with_reducible refine LaterOf.drewN ?_ _) | (with_reducible refine LaterOf.later ?_ _) | (with_reducible refine LaterOf.setCell ?_ (by first | exact Nat.le_refl _ | (simp; done) | omega | (simp; omega)) _))), rfl⟩
  case round =>
    obtain ⟨i, hi, hgas, rfl, ⟨z, rfl⟩, hall⟩ := hrel
    by_cases hlt : i < r.length
    · rw [range_step hlt, List.any_cons] at hall
      have hr0 := H.out.1.of (w' := z.wd) (by (repeat (first | (with_reducible exact SinceOf.refl _) | (with_reducible assumption) | (with_reducible refine SinceOf.alloc ?_ _) | (with_reducible refine SinceOf.drew ?_) | (with_reducible refine SinceOf.drewN ?_ _) | (with_reducible refine SinceOf.later ?_ _) | (with_reducible refine SinceOf.further ?_ _) | (with_reducible refine SinceOf.setCell ?_ (by first | exact Nat.le_refl _ | (simp; done) | omega | (simp; omega)) _))))
      obtain ⟨g, off, rfl, hr⟩ := hr0.at_ (by omega)
      have hO := hr.there
      have hq : (i + 1) % r.length < r.length := Nat.mod_lt _ (by omega)
      have va : vat r i = r[i] := vat_eq hlt
      have vb : vat r ((i + 1) % r.length) = r[(i + 1) % r.length] := vat_eq hq
      have a0 := hr.v0 i hlt
      have a1 := hr.v1 i hlt
      have b0 := hr.v0 _ hq
      have b1 := hr.v1 _ hq
      have hqi : ((i : Int) + 1) % (r.length : Int) = (((i + 1) % r.length : Nat) : Int) := by rw [Int.natCast_emod, Int.natCast_add]; rfl
      have hqt : Int.tmod ((i : Int) + 1) (r.length : Int) = (((i + 1) % r.length : Nat) : Int) := by rw [Int.tmod_eq_emod_of_nonneg (by omega)]; exact hqi
      have hse : sepE r s i = s.all (rightP r[i] r[(i + 1) % r.length]) := by unfold sepE; rw [va, vb]
      rw [hse] at hall
      generalize r[(i + 1) % r.length] = pb at *
      generalize (i + 1) % r.length = q at *
      generalize r[i] = pa at *
      obtain ⟨xa, ya⟩ := pa
      obtain ⟨xb, yb⟩ := pb
      simp only at a0 a1 b0 b1
      have hn0 : ¬ (r.length : Int) = 0 := by omega
      have hw1 : IntKind.i64.wrap ((i : Int) + 1) = (i : Int) + 1 := IntWalk.i64_in _ (by omega)
      have HA := Lib.hid (And.intro hall (And.intro hqt hw1))
      clear hall hse va vb hr hr0 hqt hw1 hqi
      go_wp2_with fail
      go_loopg [7, 19] s.length (fun gas2 s6 s7 wr => ∃ (k : Nat) (b : Bool), k ≤ s.length ∧ s.length - k ≤ gas2 ∧ s6 = .bool b ∧ s7 = .int .i64 k ∧ LaterOf (z.wd.alloc (.cells #[.int .i64 xa, .int .i64 ya] 32)) wr ∧ s.all (rightP (xa, ya) (xb, yb)) = (b && (s.drop k).all (rightP (xa, ya) (xb, yb))))
      case atStart => exact ⟨0, true, by omega, by omega, rfl, rfl, by (repeat (first | (with_reducible exact LaterOf.refl _) | (with_reducible refine LaterOf.alloc ?_ _) | (with_reducible refine LaterOf.drew ?_) | (with_reducible refine LaterOf.drewN ?_ _) | (with_reducible refine LaterOf.later ?_ _) | (with_reducible refine LaterOf.setCell ?_ (by first | exact Nat.le_refl _ | (simp; done) | omega | (simp; omega)) _))), by rw [List.drop_zero, Bool.true_and]⟩
      case round =>
        obtain ⟨k, b, hk, hgas2, rfl, rfl, ⟨z2, rfl⟩, hin⟩ := hrel
        by_cases hkl : k < s.length
        · rw [all_dropP _ hkl] at hin
          have hs0 := H.out.2.of (w' := z.wd) (by (repeat (first | (with_reducible exact SinceOf.refl _) | (with_reducible assumption) | (with_reducible refine SinceOf.alloc ?_ _) | (with_reducible refine SinceOf.drew ?_) | (with_reducible refine SinceOf.drewN ?_ _) | (with_reducible refine SinceOf.later ?_ _) | (with_reducible refine SinceOf.further ?_ _) | (with_reducible refine SinceOf.setCell ?_ (by first | exact Nat.le_refl _ | (simp; done) | omega | (simp; omega)) _))))
          obtain ⟨g3, off3, rfl, hs⟩ := hs0.at_ (by omega)
          have hO3 := hs.there
          have c0 := hs.v0 k hkl
          have c1 := hs.v1 k hkl
          generalize s[k] = pc at *
          obtain ⟨xc, yc⟩ := pc
          simp only at c0 c1
          have T := turn_any xa ya xb yb xc yc
          rw [show rightP (xa, ya) (xb, yb) (xc, yc) = decide (turnI xa ya xb yb xc yc ≤ 0) from rfl] at hin
          generalize turnI xa ya xb yb xc yc = t at *
          have hqt := HA.out.2.1
          have hw1 := HA.out.2.2
          clear hs hs0
          cases b
          · rw [Bool.false_and] at hin
            have HB := Lib.hid hin
            clear hin T
            go_wp2_with fail
            refine region_later (by kernel_rfl) (by kernel_rfl) ?_
            repeat (go_big_quiet_step (fail))
            refine wpQuiet_nil ?_
            rintro _ ⟨z4, rfl⟩
            clear hw1 hqt
            go_wp2_with fail
            go_roundg (s.length - (k + 1))
            case measure => omega
            case rel => exact ⟨k + 1, false, hkl, Nat.le_refl _, rfl, by go_num, by (repeat (first | (with_reducible exact LaterOf.refl _) | (with_reducible refine LaterOf.alloc ?_ _) | (with_reducible refine LaterOf.drew ?_) | (with_reducible refine LaterOf.drewN ?_ _) | (with_reducible refine LaterOf.later ?_ _) | (with_reducible refine LaterOf.setCell ?_ (by first | exact Nat.le_refl _ | (simp; done) | omega | (simp; omega)) _))), by rw [HB.out, Bool.false_and]⟩
          · rw [Bool.true_and] at hin
            have HB := Lib.hid hin
            clear hin
            generalize hb : decide (t ≤ 0) = b at *
            go_wp2_with fail
            refine region_later (by kernel_rfl) (by kernel_rfl) ?_
            repeat (go_big_quiet_step ((with_reducible refine Gives.later (T _))))
            refine wpQuiet_nil ?_
            rintro _ ⟨z4, rfl⟩
            clear hw1 hqt
            go_wp2_with fail
            go_roundg (s.length - (k + 1))
            case measure => omega
            case rel => exact ⟨k + 1, b, hkl, Nat.le_refl _, rfl, by go_num, by (repeat (first | (with_reducible exact LaterOf.refl _) | (with_reducible refine LaterOf.alloc ?_ _) | (with_reducible refine LaterOf.drew ?_) | (with_reducible refine LaterOf.drewN ?_ _) | (with_reducible refine LaterOf.later ?_ _) | (with_reducible refine LaterOf.setCell ?_ (by first | exact Nat.le_refl _ | (simp; done) | omega | (simp; omega)) _))), HB.out⟩
        · have hks : k = s.length := by omega
          subst hks
          rw [List.drop_length, List.all_nil, Bool.and_true] at hin
          have HC := Lib.hid HA.out.1
          rw [hin] at HC
          clear hin HA
          cases b
          · rw [Bool.false_or] at HC
            go_wp2_with fail
            go_roundg (r.length - (i + 1))
            case measure => omega
            case rel => exact ⟨i + 1, hlt, Nat.le_refl _, by go_num, by (repeat (first | (with_reducible exact LaterOf.refl _) | (with_reducible refine LaterOf.alloc ?_ _) | (with_reducible refine LaterOf.drew ?_) | (with_reducible refine LaterOf.drewN ?_ _) | (with_reducible refine LaterOf.later ?_ _) | (with_reducible refine LaterOf.setCell ?_ (by first | exact Nat.le_refl _ | (simp; done) | omega | (simp; omega)) _))), HC.out⟩
          · rw [Bool.true_or] at HC
            go_wp2_with fail
            go_returns
            exact ⟨by rw [HC.out]; rfl, by (repeat (first | (with_reducible exact LaterOf.refl _) | (with_reducible refine LaterOf.alloc ?_ _) | (with_reducible refine LaterOf.drew ?_) | (with_reducible refine LaterOf.drewN ?_ _) | (with_reducible refine LaterOf.later ?_ _) | (with_reducible refine LaterOf.setCell ?_ (by first | exact Nat.le_refl _ | (simp; done) | omega | (simp; omega)) _)))⟩
    · have hil : i = r.length := by omega
      subst hil
      rw [Nat.sub_self] at hall
      have HA := Lib.hid hall
      clear hall
      go_wp2_with fail
      go_returns
      exact ⟨by rw [HA.out]; rfl, by (repeat (first | (with_reducible exact LaterOf.refl _) | (with_reducible refine LaterOf.alloc ?_ _) | (with_reducible refine LaterOf.drew ?_) | (with_reducible refine LaterOf.drewN ?_ _) | (with_reducible refine LaterOf.later ?_ _) | (with_reducible refine LaterOf.setCell ?_ (by first | exact Nat.le_refl _ | (simp; done) | omega | (simp; omega)) _)))⟩
end Go.Proofs.Yticmfmcflikneaa
