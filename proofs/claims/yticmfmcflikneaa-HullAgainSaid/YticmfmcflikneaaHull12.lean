/- Layer 10: Diameter2 of the program. -/
import Derived.Test.YticmfmcflikneaaHull9
import Derived.Test.YticmfmcflikneaaHull2
import Derived.BigQuiet
namespace Go.Proofs.Yticmfmcflikneaa
open Go.RowKit Go.Sort
set_option linter.unusedVariables false
attribute [local go_sem ↓] Go.wp_at_zero Go.wp_at_succ

def d2 (a b : Pt) : Int := dotI (wsub a.1 b.1) (wsub a.2 b.2) (wsub a.1 b.1) (wsub a.2 b.2)
def diaRow (a : Pt) (m : Int) (l : List Pt) : Int := l.foldl (fun m b => max m (d2 a b)) m
def diaTo (r : List Pt) (m : Int) (l : List Pt) : Int := l.foldl (fun m a => diaRow a m r) m
def dia (r : List Pt) : Int := diaTo r 0 r
set_option maxRecDepth 100000 in
set_option maxHeartbeats 8000000 in
theorem diameter_any (A : Option Addr) (c : Nat) (r : List (Int × Int)) (w : World) (h : IsVecs w A c r) (hlen : r.length < 4611686018427387904) :
    Calls Try.prog 34 #[.slice A r.length c] w fun e w' => e = .returned (.tuple #[.int .i64 (if convexB r then dia r else 0), .int .i64 (if convexB r then 0 else 11)]) ∧ SinceOf w w' := by
  have C := fun W (hW : SinceOf w W) => convex_any A c r W (h.of hW) hlen
  have H := Lib.hid h
  clear h
  cases hv : convexB r
  · rw [hv] at C
    go_enter Try.func34, Try.ntmps34
    go_wp2_with fail
    refine (C _ (by (repeat (first | (with_reducible exact SinceOf.refl _) | (with_reducible assumption) | (with_reducible refine SinceOf.alloc ?_ _) | (with_reducible refine SinceOf.drew ?_) | (with_reducible refine SinceOf.drewN ?_ _) | (with_reducible refine SinceOf.later ?_ _) | (with_reducible refine SinceOf.further ?_ _) | (with_reducible refine SinceOf.setCell ?_ (by first | exact Nat.le_refl _ | (simp; done) | omega | (simp; omega)) _))))).calls.mono ?_
    rintro e _ ⟨rfl, x0, rfl⟩
    go_wp2_with fail
    go_returns
    exact ⟨rfl, by (repeat (first | (with_reducible exact SinceOf.refl _) | (with_reducible assumption) | (with_reducible refine SinceOf.alloc ?_ _) | (with_reducible refine SinceOf.drew ?_) | (with_reducible refine SinceOf.drewN ?_ _) | (with_reducible refine SinceOf.later ?_ _) | (with_reducible refine SinceOf.further ?_ _) | (with_reducible refine SinceOf.setCell ?_ (by first | exact Nat.le_refl _ | (simp; done) | omega | (simp; omega)) _)))⟩
  · rw [hv] at C
    go_enter Try.func34, Try.ntmps34
    go_wp2_with fail
    refine (C _ (by (repeat (first | (with_reducible exact SinceOf.refl _) | (with_reducible assumption) | (with_reducible refine SinceOf.alloc ?_ _) | (with_reducible refine SinceOf.drew ?_) | (with_reducible refine SinceOf.drewN ?_ _) | (with_reducible refine SinceOf.later ?_ _) | (with_reducible refine SinceOf.further ?_ _) | (with_reducible refine SinceOf.setCell ?_ (by first | exact Nat.le_refl _ | (simp; done) | omega | (simp; omega)) _))))).calls.mono ?_
    rintro e _ ⟨rfl, x0, rfl⟩
    clear C
    go_wp2_with fail
    go_loopg [4, 15] r.length (fun gas s4 s15 wr => ∃ (i : Nat) (m : Int), i ≤ r.length ∧ r.length - i ≤ gas ∧ s4 = .int .i64 m ∧ s15 = .int .i64 i ∧ SinceOf w wr ∧ dia r = diaTo r m (r.drop i))
    case atStart => exact ⟨0, 0, by omega, by omega, rfl, rfl, by (repeat (first | (with_reducible exact SinceOf.refl _) | (with_reducible assumption) | (with_reducible refine SinceOf.alloc ?_ _) | (with_reducible refine SinceOf.drew ?_) | (with_reducible refine SinceOf.drewN ?_ _) | (with_reducible refine SinceOf.later ?_ _) | (with_reducible refine SinceOf.further ?_ _) | (with_reducible refine SinceOf.setCell ?_ (by first | exact Nat.le_refl _ | (simp; done) | omega | (simp; omega)) _))), rfl⟩
    case round =>
      obtain ⟨i, m, hi, hgas, rfl, rfl, ⟨v, rfl⟩, hall⟩ := hrel
      by_cases hlt : i < r.length
      · rw [List.drop_eq_getElem_cons hlt] at hall
        have hr0 := H.out.of (w' := v.wd) (by (repeat (first | (with_reducible exact SinceOf.refl _) | (with_reducible assumption) | (with_reducible refine SinceOf.alloc ?_ _) | (with_reducible refine SinceOf.drew ?_) | (with_reducible refine SinceOf.drewN ?_ _) | (with_reducible refine SinceOf.later ?_ _) | (with_reducible refine SinceOf.further ?_ _) | (with_reducible refine SinceOf.setCell ?_ (by first | exact Nat.le_refl _ | (simp; done) | omega | (simp; omega)) _))))
        obtain ⟨g, off, rfl, hr⟩ := hr0.at_ (by omega)
        have hO := hr.there
        have a0 := hr.v0 i hlt
        have a1 := hr.v1 i hlt
        generalize r[i] = a at *
        obtain ⟨ax, ay⟩ := a
        simp only at a0 a1
        have HA := Lib.hid hall
        clear hall hr hr0
        go_wp2_with fail
        go_loopg [4, 21] r.length (fun gas2 s4 s21 wr => ∃ (k : Nat) (m2 : Int), k ≤ r.length ∧ r.length - k ≤ gas2 ∧ s4 = .int .i64 m2 ∧ s21 = .int .i64 k ∧ SinceOf (v.wd.alloc (.cells #[.int .i64 ax, .int .i64 ay] 32)) wr ∧ diaRow (ax, ay) m r = diaRow (ax, ay) m2 (r.drop k))
        case atStart => exact ⟨0, m, by omega, by omega, rfl, rfl, by (repeat (first | (with_reducible exact SinceOf.refl _) | (with_reducible assumption) | (with_reducible refine SinceOf.alloc ?_ _) | (with_reducible refine SinceOf.drew ?_) | (with_reducible refine SinceOf.drewN ?_ _) | (with_reducible refine SinceOf.later ?_ _) | (with_reducible refine SinceOf.further ?_ _) | (with_reducible refine SinceOf.setCell ?_ (by first | exact Nat.le_refl _ | (simp; done) | omega | (simp; omega)) _))), rfl⟩
        case round =>
          obtain ⟨k, m2, hk, hgas2, rfl, rfl, ⟨v2, rfl⟩, hin⟩ := hrel
          by_cases hkl : k < r.length
          · rw [List.drop_eq_getElem_cons hkl] at hin
            have hr1 := H.out.of (w' := v.wd) (by (repeat (first | (with_reducible exact SinceOf.refl _) | (with_reducible assumption) | (with_reducible refine SinceOf.alloc ?_ _) | (with_reducible refine SinceOf.drew ?_) | (with_reducible refine SinceOf.drewN ?_ _) | (with_reducible refine SinceOf.later ?_ _) | (with_reducible refine SinceOf.further ?_ _) | (with_reducible refine SinceOf.setCell ?_ (by first | exact Nat.le_refl _ | (simp; done) | omega | (simp; omega)) _))))
            obtain ⟨g', off', he, hr⟩ := hr1.at_ (by omega)
            injection he with he
            injection he with hg1 ho1
            subst hg1 ho1
            have b0 := hr.v0 k hkl
            have b1 := hr.v1 k hkl
            generalize r[k] = b at *
            obtain ⟨bx, by_⟩ := b
            simp only at b0 b1
            have S1 := sub_any ax ay bx by_
            have D1 := dot_any (wsub ax bx) (wsub ay by_) (wsub ax bx) (wsub ay by_)
            have hd : d2 (ax, ay) (bx, by_) = dotI (wsub ax bx) (wsub ay by_) (wsub ax bx) (wsub ay by_) := rfl
            rw [← hd] at D1
            have HB := Lib.hid hin
            clear hin hr hr1 hd
            generalize wsub ax bx = dx at *
            generalize wsub ay by_ = dy at *
            go_wp2_with fail
            refine (S1 _).calls.mono ?_
            rintro e _ ⟨rfl, x1, rfl⟩
            go_wp2_with fail
            refine (D1 _).calls.mono ?_
            rintro e _ ⟨rfl, x2, rfl⟩
            go_wp2_with fail
            go_roundg (r.length - (k + 1))
            case measure => omega
            case rel => exact ⟨k + 1, max m2 (d2 (ax, ay) (bx, by_)), hkl, Nat.le_refl _, rfl, by go_num, by (repeat (first | (with_reducible exact SinceOf.refl _) | (with_reducible assumption) | (with_reducible refine SinceOf.alloc ?_ _) | (with_reducible refine SinceOf.drew ?_) | (with_reducible refine SinceOf.drewN ?_ _) | (with_reducible refine SinceOf.later ?_ _) | (with_reducible refine SinceOf.further ?_ _) | (with_reducible refine SinceOf.setCell ?_ (by first | exact Nat.le_refl _ | (simp; done) | omega | (simp; omega)) _))), by rw [HB.out]; rfl⟩
          · have hkl2 : k = r.length := by omega
            subst hkl2
            rw [List.drop_length] at hin
            have HB := Lib.hid hin
            clear hin
            go_wp2_with fail
            go_roundg (r.length - (i + 1))
            case measure => omega
            case rel => exact ⟨i + 1, m2, hlt, Nat.le_refl _, rfl, by go_num, by (repeat (first | (with_reducible exact SinceOf.refl _) | (with_reducible assumption) | (with_reducible refine SinceOf.alloc ?_ _) | (with_reducible refine SinceOf.drew ?_) | (with_reducible refine SinceOf.drewN ?_ _) | (with_reducible refine SinceOf.later ?_ _) | (with_reducible refine SinceOf.further ?_ _) | (with_reducible refine SinceOf.setCell ?_ (by first | exact Nat.le_refl _ | (simp; done) | omega | (simp; omega)) _))), by rw [HA.out, show diaTo r m ((ax, ay) :: r.drop (i + 1)) = diaTo r (diaRow (ax, ay) m r) (r.drop (i + 1)) from rfl, HB.out]; rfl⟩
      · have hil : i = r.length := by omega
        subst hil
        rw [List.drop_length] at hall
        have HA := Lib.hid hall
        clear hall
        go_wp2_with fail
        go_returns
        exact ⟨by rw [HA.out]; rfl, by (repeat (first | (with_reducible exact SinceOf.refl _) | (with_reducible assumption) | (with_reducible refine SinceOf.alloc ?_ _) | (with_reducible refine SinceOf.drew ?_) | (with_reducible refine SinceOf.drewN ?_ _) | (with_reducible refine SinceOf.later ?_ _) | (with_reducible refine SinceOf.further ?_ _) | (with_reducible refine SinceOf.setCell ?_ (by first | exact Nat.le_refl _ | (simp; done) | omega | (simp; omega)) _)))⟩
end Go.Proofs.Yticmfmcflikneaa
