/- Layer 10: the reference's Diameter2. -/
import Derived.Test.YticmfmcflikneaaHull20
namespace Go.Proofs.Yticmfmcflikneaa
open Go.RowKit Go.Sort
set_option linter.unusedVariables false
set_option linter.unusedSimpArgs false
attribute [local go_sem ↓] Go.wp_at_zero Go.wp_at_succ

def diaR (r : List Pt) : Nat → Int
  | 0 => 0
  | i + 1 => diaRow (at0 r i) (diaR r i) (r.take i)
theorem diaRow_step {a : Pt} {m : Int} {r : List Pt} {k : Nat} (h : k < r.length) : diaRow a m (r.take (k + 1)) = max (diaRow a m (r.take k)) (d2 a (at0 r k)) := by
  unfold diaRow
  rw [List.take_add_one, List.getElem?_eq_getElem h, at0_eq h, List.foldl_append]
  rfl
set_option maxRecDepth 100000 in
set_option maxHeartbeats 8000000 in
theorem refDiameter_any (A : Option Addr) (c : Nat) (r : List (Int × Int)) (w : World) (h : IsVecs w A c r) (hlen : r.length < 4611686018427387904) :
    Calls Try.prog 37 #[.slice A r.length c] w fun e w' => e = .returned (.tuple #[.int .i64 (if convexB r then diaR r r.length else 0), .int .i64 (if convexB r then 0 else 11)]) ∧ SinceOf w w' := by
  have C := fun W (hW : SinceOf w W) => refConvex_any A c r W (h.of hW) hlen
  have H := Lib.hid h
  clear h
  cases hv : convexB r
  · rw [hv] at C
    go_enter Try.func37, Try.ntmps37
    go_wp2_with fail
    refine (C _ (by (repeat (first | (with_reducible exact SinceOf.refl _) | (with_reducible assumption) | (with_reducible refine SinceOf.alloc ?_ _) | (with_reducible refine SinceOf.drew ?_) | (with_reducible refine SinceOf.drewN ?_ _) | (with_reducible refine SinceOf.later ?_ _) | (with_reducible refine SinceOf.further ?_ _) | (with_reducible refine SinceOf.setCell ?_ (by first | exact Nat.le_refl _ | (simp; done) | omega | (simp; omega)) _))))).calls.mono ?_
    rintro e _ ⟨rfl, x0, rfl⟩
    go_wp2_with fail
    go_returns
    exact ⟨rfl, by (repeat (first | (with_reducible exact SinceOf.refl _) | (with_reducible assumption) | (with_reducible refine SinceOf.alloc ?_ _) | (with_reducible refine SinceOf.drew ?_) | (with_reducible refine SinceOf.drewN ?_ _) | (with_reducible refine SinceOf.later ?_ _) | (with_reducible refine SinceOf.further ?_ _) | (with_reducible refine SinceOf.setCell ?_ (by first | exact Nat.le_refl _ | (simp; done) | omega | (simp; omega)) _)))⟩
  · rw [hv] at C
    go_enter Try.func37, Try.ntmps37
    go_wp2_with fail
    refine (C _ (by (repeat (first | (with_reducible exact SinceOf.refl _) | (with_reducible assumption) | (with_reducible refine SinceOf.alloc ?_ _) | (with_reducible refine SinceOf.drew ?_) | (with_reducible refine SinceOf.drewN ?_ _) | (with_reducible refine SinceOf.later ?_ _) | (with_reducible refine SinceOf.further ?_ _) | (with_reducible refine SinceOf.setCell ?_ (by first | exact Nat.le_refl _ | (simp; done) | omega | (simp; omega)) _))))).calls.mono ?_
    rintro e _ ⟨rfl, x0, rfl⟩
    clear C
    go_wp2_with fail
    go_loopg [4, 5] r.length (fun gas s4 s5 wr => ∃ (i : Nat) (m : Int), i ≤ r.length ∧ r.length - i ≤ gas ∧ s4 = .int .i64 m ∧ s5 = .int .i64 i ∧ SinceOf w wr ∧ m = diaR r i)
    case atStart => exact ⟨0, 0, by omega, by omega, rfl, rfl, by (repeat (first | (with_reducible exact SinceOf.refl _) | (with_reducible assumption) | (with_reducible refine SinceOf.alloc ?_ _) | (with_reducible refine SinceOf.drew ?_) | (with_reducible refine SinceOf.drewN ?_ _) | (with_reducible refine SinceOf.later ?_ _) | (with_reducible refine SinceOf.further ?_ _) | (with_reducible refine SinceOf.setCell ?_ (by first | exact Nat.le_refl _ | (simp; done) | omega | (simp; omega)) _))), rfl⟩
    case round =>
      obtain ⟨i, m, hi, hgas, rfl, rfl, ⟨v, rfl⟩, hm⟩ := hrel
      by_cases hlt : i < r.length
      · have HA := Lib.hid hm
        clear hm
        go_wp2_with fail
        go_loopg [4, 6] i (fun gas2 s4 s6 wr => ∃ (k : Nat) (m2 : Int), k ≤ i ∧ i - k ≤ gas2 ∧ s4 = .int .i64 m2 ∧ s6 = .int .i64 k ∧ SinceOf v.wd wr ∧ m2 = diaRow (at0 r i) (diaR r i) (r.take k))
        case atStart => exact ⟨0, m, by omega, by omega, rfl, rfl, by (repeat (first | (with_reducible exact SinceOf.refl _) | (with_reducible assumption) | (with_reducible refine SinceOf.alloc ?_ _) | (with_reducible refine SinceOf.drew ?_) | (with_reducible refine SinceOf.drewN ?_ _) | (with_reducible refine SinceOf.later ?_ _) | (with_reducible refine SinceOf.further ?_ _) | (with_reducible refine SinceOf.setCell ?_ (by first | exact Nat.le_refl _ | (simp; done) | omega | (simp; omega)) _))), HA.out⟩
        case round =>
          obtain ⟨k, m2, hk, hgas2, rfl, rfl, ⟨v2, rfl⟩, hin⟩ := hrel
          by_cases hkl : k < i
          · have hkr : k < r.length := by omega
            have hr0 := H.out.of (w' := v2.wd) (by (repeat (first | (with_reducible exact SinceOf.refl _) | (with_reducible assumption) | (with_reducible refine SinceOf.alloc ?_ _) | (with_reducible refine SinceOf.drew ?_) | (with_reducible refine SinceOf.drewN ?_ _) | (with_reducible refine SinceOf.later ?_ _) | (with_reducible refine SinceOf.further ?_ _) | (with_reducible refine SinceOf.setCell ?_ (by first | exact Nat.le_refl _ | (simp; done) | omega | (simp; omega)) _))))
            obtain ⟨g, off, rfl, hr⟩ := hr0.at_ (by omega)
            have hO := hr.there
            have a0 := hr.v0 i hlt
            have a1 := hr.v1 i hlt
            have b0 := hr.v0 k hkr
            have b1 := hr.v1 k hkr
            have ea : at0 r i = r[i] := at0_eq hlt
            have eb : at0 r k = r[k] := at0_eq hkr
            generalize r[i] = a at *
            generalize r[k] = b at *
            obtain ⟨ax, ay⟩ := a
            obtain ⟨bx, by_⟩ := b
            simp only at a0 a1 b0 b1
            have S1 := refSub_any ax ay bx by_
            have D1 := refDot_any (wsub ax bx) (wsub ay by_) (wsub ax bx) (wsub ay by_)
            have hd : d2 (ax, ay) (bx, by_) = dotI (wsub ax bx) (wsub ay by_) (wsub ax bx) (wsub ay by_) := rfl
            rw [← hd] at D1
            obtain ⟨dd, hdd⟩ : ∃ x, x = d2 (ax, ay) (bx, by_) := ⟨_, rfl⟩
            rw [← hdd] at D1
            have HB := Lib.hid (And.intro hin (And.intro ea (And.intro eb hdd)))
            clear hin hr hr0 hd ea eb hdd
            generalize wsub ax bx = dx at *
            generalize wsub ay by_ = dy at *
            go_wp2_with fail
            go_cut [7] (fun s7 wx => ∃ b7 : Nat, s7 = .pointer (some ⟨b7, 0, none⟩) ∧ wx.cell? ⟨b7, 0, none⟩ = some (.int .i64 dx) ∧ wx.cell? ⟨b7, 1, none⟩ = some (.int .i64 dy) ∧ b7 < wx.heap.size ∧ SinceOf v2.wd wx)
            case first =>
              go_region_held3 (fun w' => w'.cell? ⟨g, off + i * 2, none⟩ = some (.int .i64 ax) ∧ w'.cell? ⟨g, off + i * 2 + 1, none⟩ = some (.int .i64 ay) ∧ w'.cell? ⟨g, off + k * 2, none⟩ = some (.int .i64 bx) ∧ w'.cell? ⟨g, off + k * 2 + 1, none⟩ = some (.int .i64 by_)) ((simp [go_sem, *]))
                ((go_at_call 32; refine (S1 _).calls.mono ?_; rintro e _ ⟨rfl, y1, rfl⟩))
              all_goals
                go_wp2_with fail
                go_meet
                have e1 := y1.size
                (try simp only [World.size_alloc, World.size_setCell, World.size_drew] at e1)
                refine ⟨_, rfl, ?_, ?_, ?_, by (repeat (first | (with_reducible exact SinceOf.refl _) | (with_reducible assumption) | (with_reducible refine SinceOf.alloc ?_ _) | (with_reducible refine SinceOf.drew ?_) | (with_reducible refine SinceOf.drewN ?_ _) | (with_reducible refine SinceOf.later ?_ _) | (with_reducible refine SinceOf.further ?_ _) | (with_reducible refine SinceOf.setCell ?_ (by first | exact Nat.le_refl _ | (simp; done) | omega | (simp; omega)) _)))⟩
                · simp [go_sem, *]
                · simp [go_sem, *]
                · simp only [World.size_alloc, World.size_setCell, World.size_drew]; omega
            case rest =>
              obtain ⟨b7, rfl, k0, k1, hb7, ⟨z6, rfl⟩⟩ := hcut
              have hO7 : Nonempty (Old z6.wd b7) := ⟨⟨hb7⟩⟩
              clear S1
              go_wp2_with fail
              refine (D1 _).calls.mono ?_
              rintro e _ ⟨rfl, x2, rfl⟩
              go_wp2_with fail
              go_roundg (i - (k + 1))
              case measure => omega
              case rel => exact ⟨k + 1, max m2 dd, hkl, Nat.le_refl _, rfl, by go_num, by (repeat (first | (with_reducible exact SinceOf.refl _) | (with_reducible assumption) | (with_reducible refine SinceOf.alloc ?_ _) | (with_reducible refine SinceOf.drew ?_) | (with_reducible refine SinceOf.drewN ?_ _) | (with_reducible refine SinceOf.later ?_ _) | (with_reducible refine SinceOf.further ?_ _) | (with_reducible refine SinceOf.setCell ?_ (by first | exact Nat.le_refl _ | (simp; done) | omega | (simp; omega)) _))), by rw [diaRow_step hkr, HB.out.1, HB.out.2.1, HB.out.2.2.1, HB.out.2.2.2]⟩
          · have hkl2 : k = i := by omega
            subst hkl2
            have HB := Lib.hid hin
            clear hin
            go_wp2_with fail
            go_roundg (r.length - (k + 1))
            case measure => omega
            case rel => exact ⟨k + 1, m2, hlt, Nat.le_refl _, rfl, by go_num, by (repeat (first | (with_reducible exact SinceOf.refl _) | (with_reducible assumption) | (with_reducible refine SinceOf.alloc ?_ _) | (with_reducible refine SinceOf.drew ?_) | (with_reducible refine SinceOf.drewN ?_ _) | (with_reducible refine SinceOf.later ?_ _) | (with_reducible refine SinceOf.further ?_ _) | (with_reducible refine SinceOf.setCell ?_ (by first | exact Nat.le_refl _ | (simp; done) | omega | (simp; omega)) _))), HB.out⟩
      · have hil : i = r.length := by omega
        subst hil
        have HA := Lib.hid hm
        clear hm
        go_wp2_with fail
        go_returns
        exact ⟨by rw [HA.out]; rfl, by (repeat (first | (with_reducible exact SinceOf.refl _) | (with_reducible assumption) | (with_reducible refine SinceOf.alloc ?_ _) | (with_reducible refine SinceOf.drew ?_) | (with_reducible refine SinceOf.drewN ?_ _) | (with_reducible refine SinceOf.later ?_ _) | (with_reducible refine SinceOf.further ?_ _) | (with_reducible refine SinceOf.setCell ?_ (by first | exact Nat.le_refl _ | (simp; done) | omega | (simp; omega)) _)))⟩
end Go.Proofs.Yticmfmcflikneaa
