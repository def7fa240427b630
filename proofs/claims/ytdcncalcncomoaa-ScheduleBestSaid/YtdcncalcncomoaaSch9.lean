/- Layer 52: the closures over slots, IndexFunc, ContainsFunc; Contains of ints. -/
import Derived.Test.YtdcncalcncomoaaSch6
import Derived.Deep.RegionHeld3
namespace Go.Proofs.Ytdcncalcncomoaa
open Go.RowKit Go.Sort
set_option linter.unusedVariables false
attribute [local go_sem ↓] Go.wp_at_zero Go.wp_at_succ

set_option maxRecDepth 100000 in
set_option maxHeartbeats 2000000 in
theorem indexSame_any (v1 : Value) (p : SlotR → Bool) (A : Option Addr) (c : Nat) (l : List SlotR) (w : World) (h : IsSlots w A c l) (hlen : l.length < 4611686018427387904) (hf : ∀ W, SinceOf w W → ∀ y ∈ l, Gives Try.prog 81 #[slotV y, v1] W (.bool (p y))) :
    Calls Try.prog 70 #[.slice A l.length c, .func (.func 81) #[] #[v1]] w fun e w' => ∃ r : Int, e = .returned (.int .i64 r) ∧ decide (0 ≤ r) = l.any p ∧ LaterOf w w' := by
  have H := Lib.hid h
  clear h
  go_enter Try.func70, Try.ntmps70
  go_wp2_with fail
  go_loopg [8] l.length (fun gas s8 wr => ∃ k : Nat, k ≤ l.length ∧ l.length - k ≤ gas ∧ s8 = .int .i64 k ∧ LaterOf w wr ∧ l.any p = (l.drop k).any p)
  case atStart => exact ⟨0, by omega, by omega, rfl, by (repeat (first | (with_reducible exact LaterOf.refl _) | (with_reducible refine LaterOf.alloc ?_ _) | (with_reducible refine LaterOf.drew ?_) | (with_reducible refine LaterOf.drewN ?_ _) | (with_reducible refine LaterOf.later ?_ _) | (with_reducible refine LaterOf.setCell ?_ (by first | exact Nat.le_refl _ | (simp; done) | omega | (simp; omega)) _))), by rw [List.drop_zero]⟩
  case round =>
    obtain ⟨k, hk, hgas, rfl, ⟨z, rfl⟩, hany⟩ := hrel
    by_cases hlt : k < l.length
    · have hc := (H.out.of (LaterOf.since ⟨z, rfl⟩))
      have C := hf z.wd (LaterOf.since ⟨z, rfl⟩) _ (List.getElem_mem hlt)
      obtain ⟨g, off, rfl, hr⟩ := hc.at_ (by omega)
      have hO := hr.there
      have k0 := hr.s0 k hlt
      have k1 := hr.s1 k hlt
      have k2 := hr.s2 k hlt
      have k3 := hr.s3 k hlt
      rw [any_drop p hlt] at hany
      generalize l[k] = x at *
      clear hc hr
      cases hx : p x
      · rw [hx] at C hany
        rw [Bool.false_or] at hany
        have HA := Lib.hid hany
        clear hany hx
        go_wp2_with fail
        refine C.calls.mono ?_
        rintro e _ ⟨rfl, x1, rfl⟩
        go_wp2_with fail
        go_roundg (l.length - (k + 1))
        case measure => omega
        case rel => exact ⟨k + 1, hlt, Nat.le_refl _, by go_num, by (repeat (first | (with_reducible exact LaterOf.refl _) | (with_reducible refine LaterOf.alloc ?_ _) | (with_reducible refine LaterOf.drew ?_) | (with_reducible refine LaterOf.drewN ?_ _) | (with_reducible refine LaterOf.later ?_ _) | (with_reducible refine LaterOf.setCell ?_ (by first | exact Nat.le_refl _ | (simp; done) | omega | (simp; omega)) _))), HA.out⟩
      · rw [hx] at C hany
        rw [Bool.true_or] at hany
        have HA := Lib.hid hany
        clear hany hx
        go_wp2_with fail
        refine C.calls.mono ?_
        rintro e _ ⟨rfl, x1, rfl⟩
        go_wp2_with fail
        go_returns
        exact ⟨k, rfl, by rw [HA.out]; simp, by (repeat (first | (with_reducible exact LaterOf.refl _) | (with_reducible refine LaterOf.alloc ?_ _) | (with_reducible refine LaterOf.drew ?_) | (with_reducible refine LaterOf.drewN ?_ _) | (with_reducible refine LaterOf.later ?_ _) | (with_reducible refine LaterOf.setCell ?_ (by first | exact Nat.le_refl _ | (simp; done) | omega | (simp; omega)) _)))⟩
    · have hkl : k = l.length := by omega
      rw [hkl, List.drop_length] at hany
      have HA := Lib.hid hany
      clear hany
      go_wp2_with fail
      go_returns
      exact ⟨-1, rfl, by rw [HA.out]; rfl, by (repeat (first | (with_reducible exact LaterOf.refl _) | (with_reducible refine LaterOf.alloc ?_ _) | (with_reducible refine LaterOf.drew ?_) | (with_reducible refine LaterOf.drewN ?_ _) | (with_reducible refine LaterOf.later ?_ _) | (with_reducible refine LaterOf.setCell ?_ (by first | exact Nat.le_refl _ | (simp; done) | omega | (simp; omega)) _)))⟩
theorem containsSame_any (v1 : Value) (p : SlotR → Bool) (A : Option Addr) (c : Nat) (l : List SlotR) (w : World) (h : IsSlots w A c l) (hlen : l.length < 4611686018427387904) (hf : ∀ W, SinceOf w W → ∀ y ∈ l, Gives Try.prog 81 #[slotV y, v1] W (.bool (p y))) :
    Gives Try.prog 53 #[.slice A l.length c, .func (.func 81) #[] #[v1]] w (.bool (l.any p)) := by
  apply Gives.ret
  have H := Lib.hid (And.intro h hf)
  clear h hf
  go_enter Try.func53, Try.ntmps53
  go_wp2_with fail
  refine (indexSame_any v1 p A c l _ H.out.1 hlen H.out.2).mono ?_
  rintro e _ ⟨r, rfl, hr, ⟨z, rfl⟩⟩
  have HA := Lib.hid hr
  clear hr
  go_wp2_with fail
  go_returns
  exact ⟨by show Ending.returned (.bool (decide (0 ≤ r))) = _; rw [HA.out], by (repeat (first | (with_reducible exact LaterOf.refl _) | (with_reducible refine LaterOf.alloc ?_ _) | (with_reducible refine LaterOf.drew ?_) | (with_reducible refine LaterOf.drewN ?_ _) | (with_reducible refine LaterOf.later ?_ _) | (with_reducible refine LaterOf.setCell ?_ (by first | exact Nat.le_refl _ | (simp; done) | omega | (simp; omega)) _)))⟩
set_option maxRecDepth 100000 in
set_option maxHeartbeats 2000000 in
theorem indexClash_any (v1 v2 v3 : Value) (p : SlotR → Bool) (A : Option Addr) (c : Nat) (l : List SlotR) (w : World) (h : IsSlots w A c l) (hlen : l.length < 4611686018427387904) (hf : ∀ W, SinceOf w W → ∀ y ∈ l, Gives Try.prog 83 #[slotV y, v1, v2, v3] W (.bool (p y))) :
    Calls Try.prog 70 #[.slice A l.length c, .func (.func 83) #[] #[v1, v2, v3]] w fun e w' => ∃ r : Int, e = .returned (.int .i64 r) ∧ decide (0 ≤ r) = l.any p ∧ LaterOf w w' := by
  have H := Lib.hid h
  clear h
  go_enter Try.func70, Try.ntmps70
  go_wp2_with fail
  go_loopg [8] l.length (fun gas s8 wr => ∃ k : Nat, k ≤ l.length ∧ l.length - k ≤ gas ∧ s8 = .int .i64 k ∧ LaterOf w wr ∧ l.any p = (l.drop k).any p)
  case atStart => exact ⟨0, by omega, by omega, rfl, by (repeat (first | (with_reducible exact LaterOf.refl _) | (with_reducible refine LaterOf.alloc ?_ _) | (with_reducible refine LaterOf.drew ?_) | (with_reducible refine LaterOf.drewN ?_ _) | (with_reducible refine LaterOf.later ?_ _) | (with_reducible refine LaterOf.setCell ?_ (by first | exact Nat.le_refl _ | (simp; done) | omega | (simp; omega)) _))), by rw [List.drop_zero]⟩
  case round =>
    obtain ⟨k, hk, hgas, rfl, ⟨z, rfl⟩, hany⟩ := hrel
    by_cases hlt : k < l.length
    · have hc := (H.out.of (LaterOf.since ⟨z, rfl⟩))
      have C := hf z.wd (LaterOf.since ⟨z, rfl⟩) _ (List.getElem_mem hlt)
      obtain ⟨g, off, rfl, hr⟩ := hc.at_ (by omega)
      have hO := hr.there
      have k0 := hr.s0 k hlt
      have k1 := hr.s1 k hlt
      have k2 := hr.s2 k hlt
      have k3 := hr.s3 k hlt
      rw [any_drop p hlt] at hany
      generalize l[k] = x at *
      clear hc hr
      cases hx : p x
      · rw [hx] at C hany
        rw [Bool.false_or] at hany
        have HA := Lib.hid hany
        clear hany hx
        go_wp2_with fail
        refine C.calls.mono ?_
        rintro e _ ⟨rfl, x1, rfl⟩
        go_wp2_with fail
        go_roundg (l.length - (k + 1))
        case measure => omega
        case rel => exact ⟨k + 1, hlt, Nat.le_refl _, by go_num, by (repeat (first | (with_reducible exact LaterOf.refl _) | (with_reducible refine LaterOf.alloc ?_ _) | (with_reducible refine LaterOf.drew ?_) | (with_reducible refine LaterOf.drewN ?_ _) | (with_reducible refine LaterOf.later ?_ _) | (with_reducible refine LaterOf.setCell ?_ (by first | exact Nat.le_refl _ | (simp; done) | omega | (simp; omega)) _))), HA.out⟩
      · rw [hx] at C hany
        rw [Bool.true_or] at hany
        have HA := Lib.hid hany
        clear hany hx
        go_wp2_with fail
        refine C.calls.mono ?_
        rintro e _ ⟨rfl, x1, rfl⟩
        go_wp2_with fail
        go_returns
        exact ⟨k, rfl, by rw [HA.out]; simp, by (repeat (first | (with_reducible exact LaterOf.refl _) | (with_reducible refine LaterOf.alloc ?_ _) | (with_reducible refine LaterOf.drew ?_) | (with_reducible refine LaterOf.drewN ?_ _) | (with_reducible refine LaterOf.later ?_ _) | (with_reducible refine LaterOf.setCell ?_ (by first | exact Nat.le_refl _ | (simp; done) | omega | (simp; omega)) _)))⟩
    · have hkl : k = l.length := by omega
      rw [hkl, List.drop_length] at hany
      have HA := Lib.hid hany
      clear hany
      go_wp2_with fail
      go_returns
      exact ⟨-1, rfl, by rw [HA.out]; rfl, by (repeat (first | (with_reducible exact LaterOf.refl _) | (with_reducible refine LaterOf.alloc ?_ _) | (with_reducible refine LaterOf.drew ?_) | (with_reducible refine LaterOf.drewN ?_ _) | (with_reducible refine LaterOf.later ?_ _) | (with_reducible refine LaterOf.setCell ?_ (by first | exact Nat.le_refl _ | (simp; done) | omega | (simp; omega)) _)))⟩
theorem containsClash_any (v1 v2 v3 : Value) (p : SlotR → Bool) (A : Option Addr) (c : Nat) (l : List SlotR) (w : World) (h : IsSlots w A c l) (hlen : l.length < 4611686018427387904) (hf : ∀ W, SinceOf w W → ∀ y ∈ l, Gives Try.prog 83 #[slotV y, v1, v2, v3] W (.bool (p y))) :
    Gives Try.prog 53 #[.slice A l.length c, .func (.func 83) #[] #[v1, v2, v3]] w (.bool (l.any p)) := by
  apply Gives.ret
  have H := Lib.hid (And.intro h hf)
  clear h hf
  go_enter Try.func53, Try.ntmps53
  go_wp2_with fail
  refine (indexClash_any v1 v2 v3 p A c l _ H.out.1 hlen H.out.2).mono ?_
  rintro e _ ⟨r, rfl, hr, ⟨z, rfl⟩⟩
  have HA := Lib.hid hr
  clear hr
  go_wp2_with fail
  go_returns
  exact ⟨by show Ending.returned (.bool (decide (0 ≤ r))) = _; rw [HA.out], by (repeat (first | (with_reducible exact LaterOf.refl _) | (with_reducible refine LaterOf.alloc ?_ _) | (with_reducible refine LaterOf.drew ?_) | (with_reducible refine LaterOf.drewN ?_ _) | (with_reducible refine LaterOf.later ?_ _) | (with_reducible refine LaterOf.setCell ?_ (by first | exact Nat.le_refl _ | (simp; done) | omega | (simp; omega)) _)))⟩
set_option maxRecDepth 100000 in
set_option maxHeartbeats 2000000 in
theorem indexAsked_any (v1 : Value) (p : SlotR → Bool) (A : Option Addr) (c : Nat) (l : List SlotR) (w : World) (h : IsSlots w A c l) (hlen : l.length < 4611686018427387904) (hf : ∀ W, SinceOf w W → ∀ y ∈ l, Gives Try.prog 54 #[slotV y, v1] W (.bool (p y))) :
    Calls Try.prog 70 #[.slice A l.length c, .func (.func 54) #[] #[v1]] w fun e w' => ∃ r : Int, e = .returned (.int .i64 r) ∧ decide (0 ≤ r) = l.any p ∧ LaterOf w w' := by
  have H := Lib.hid h
  clear h
  go_enter Try.func70, Try.ntmps70
  go_wp2_with fail
  go_loopg [8] l.length (fun gas s8 wr => ∃ k : Nat, k ≤ l.length ∧ l.length - k ≤ gas ∧ s8 = .int .i64 k ∧ LaterOf w wr ∧ l.any p = (l.drop k).any p)
  case atStart => exact ⟨0, by omega, by omega, rfl, by (repeat (first | (with_reducible exact LaterOf.refl _) | (with_reducible refine LaterOf.alloc ?_ _) | (with_reducible refine LaterOf.drew ?_) | (with_reducible refine LaterOf.drewN ?_ _) | (with_reducible refine LaterOf.later ?_ _) | (with_reducible refine LaterOf.setCell ?_ (by first | exact Nat.le_refl _ | (simp; done) | omega | (simp; omega)) _))), by rw [List.drop_zero]⟩
  case round =>
    obtain ⟨k, hk, hgas, rfl, ⟨z, rfl⟩, hany⟩ := hrel
    by_cases hlt : k < l.length
    · have hc := (H.out.of (LaterOf.since ⟨z, rfl⟩))
      have C := hf z.wd (LaterOf.since ⟨z, rfl⟩) _ (List.getElem_mem hlt)
      obtain ⟨g, off, rfl, hr⟩ := hc.at_ (by omega)
      have hO := hr.there
      have k0 := hr.s0 k hlt
      have k1 := hr.s1 k hlt
      have k2 := hr.s2 k hlt
      have k3 := hr.s3 k hlt
      rw [any_drop p hlt] at hany
      generalize l[k] = x at *
      clear hc hr
      cases hx : p x
      · rw [hx] at C hany
        rw [Bool.false_or] at hany
        have HA := Lib.hid hany
        clear hany hx
        go_wp2_with fail
        refine C.calls.mono ?_
        rintro e _ ⟨rfl, x1, rfl⟩
        go_wp2_with fail
        go_roundg (l.length - (k + 1))
        case measure => omega
        case rel => exact ⟨k + 1, hlt, Nat.le_refl _, by go_num, by (repeat (first | (with_reducible exact LaterOf.refl _) | (with_reducible refine LaterOf.alloc ?_ _) | (with_reducible refine LaterOf.drew ?_) | (with_reducible refine LaterOf.drewN ?_ _) | (with_reducible refine LaterOf.later ?_ _) | (with_reducible refine LaterOf.setCell ?_ (by first | exact Nat.le_refl _ | (simp; done) | omega | (simp; omega)) _))), HA.out⟩
      · rw [hx] at C hany
        rw [Bool.true_or] at hany
        have HA := Lib.hid hany
        clear hany hx
        go_wp2_with fail
        refine C.calls.mono ?_
        rintro e _ ⟨rfl, x1, rfl⟩
        go_wp2_with fail
        go_returns
        exact ⟨k, rfl, by rw [HA.out]; simp, by (repeat (first | (with_reducible exact LaterOf.refl _) | (with_reducible refine LaterOf.alloc ?_ _) | (with_reducible refine LaterOf.drew ?_) | (with_reducible refine LaterOf.drewN ?_ _) | (with_reducible refine LaterOf.later ?_ _) | (with_reducible refine LaterOf.setCell ?_ (by first | exact Nat.le_refl _ | (simp; done) | omega | (simp; omega)) _)))⟩
    · have hkl : k = l.length := by omega
      rw [hkl, List.drop_length] at hany
      have HA := Lib.hid hany
      clear hany
      go_wp2_with fail
      go_returns
      exact ⟨-1, rfl, by rw [HA.out]; rfl, by (repeat (first | (with_reducible exact LaterOf.refl _) | (with_reducible refine LaterOf.alloc ?_ _) | (with_reducible refine LaterOf.drew ?_) | (with_reducible refine LaterOf.drewN ?_ _) | (with_reducible refine LaterOf.later ?_ _) | (with_reducible refine LaterOf.setCell ?_ (by first | exact Nat.le_refl _ | (simp; done) | omega | (simp; omega)) _)))⟩
theorem containsAsked_any (v1 : Value) (p : SlotR → Bool) (A : Option Addr) (c : Nat) (l : List SlotR) (w : World) (h : IsSlots w A c l) (hlen : l.length < 4611686018427387904) (hf : ∀ W, SinceOf w W → ∀ y ∈ l, Gives Try.prog 54 #[slotV y, v1] W (.bool (p y))) :
    Gives Try.prog 53 #[.slice A l.length c, .func (.func 54) #[] #[v1]] w (.bool (l.any p)) := by
  apply Gives.ret
  have H := Lib.hid (And.intro h hf)
  clear h hf
  go_enter Try.func53, Try.ntmps53
  go_wp2_with fail
  refine (indexAsked_any v1 p A c l _ H.out.1 hlen H.out.2).mono ?_
  rintro e _ ⟨r, rfl, hr, ⟨z, rfl⟩⟩
  have HA := Lib.hid hr
  clear hr
  go_wp2_with fail
  go_returns
  exact ⟨by show Ending.returned (.bool (decide (0 ≤ r))) = _; rw [HA.out], by (repeat (first | (with_reducible exact LaterOf.refl _) | (with_reducible refine LaterOf.alloc ?_ _) | (with_reducible refine LaterOf.drew ?_) | (with_reducible refine LaterOf.drewN ?_ _) | (with_reducible refine LaterOf.later ?_ _) | (with_reducible refine LaterOf.setCell ?_ (by first | exact Nat.le_refl _ | (simp; done) | omega | (simp; omega)) _)))⟩

/-- A variable that holds a slot. -/
structure SlotAt (w : World) (g : Nat) (x : SlotR) : Prop where
  c0 : w.cell? ⟨g, 0, none⟩ = some (.int .i64 x.job)
  c1 : w.cell? ⟨g, 1, none⟩ = some (.int .i64 x.mach)
  c2 : w.cell? ⟨g, 2, none⟩ = some (.int .i64 x.start)
  c3 : w.cell? ⟨g, 3, none⟩ = some (.int .i64 x.stop)
  there : Nonempty (Old w g)
theorem SlotAt.of {w w' : World} {g : Nat} {s : SlotR} (h : SlotAt w g s) (hs : SinceOf w w') : SlotAt w' g s := by
  obtain ⟨z, rfl⟩ := hs
  have := h.there
  exact ⟨by rw [Since.cell]; exact h.c0, by rw [Since.cell]; exact h.c1, by rw [Since.cell]; exact h.c2, by rw [Since.cell]; exact h.c3, inferInstance⟩
theorem sameFn_any (x y : SlotR) (b : Nat) (w : World) (h : SlotAt w b x) : Gives Try.prog 81 #[slotV y, .pointer (some ⟨b, 0, none⟩)] w (.bool (y.job == x.job)) := by
  apply Gives.ret
  obtain ⟨c0, c1, c2, c3, hO⟩ := h
  go_enter Try.func81, Try.ntmps81
  go_wp2_with fail
  go_returns
  exact ⟨rfl, by (repeat (first | (with_reducible exact LaterOf.refl _) | (with_reducible refine LaterOf.alloc ?_ _) | (with_reducible refine LaterOf.drew ?_) | (with_reducible refine LaterOf.drewN ?_ _) | (with_reducible refine LaterOf.later ?_ _) | (with_reducible refine LaterOf.setCell ?_ (by first | exact Nat.le_refl _ | (simp; done) | omega | (simp; omega)) _)))⟩
theorem askedFn_any (j : Int) (y : SlotR) (b : Nat) (w : World) (h : w.cell? ⟨b, 0, none⟩ = some (.int .i64 j)) (hO : Nonempty (Old w b)) : Gives Try.prog 54 #[slotV y, .pointer (some ⟨b, 0, none⟩)] w (.bool (y.job == j)) := by
  apply Gives.ret
  go_enter Try.func54, Try.ntmps54
  go_wp2_with fail
  go_returns
  exact ⟨rfl, by (repeat (first | (with_reducible exact LaterOf.refl _) | (with_reducible refine LaterOf.alloc ?_ _) | (with_reducible refine LaterOf.drew ?_) | (with_reducible refine LaterOf.drewN ?_ _) | (with_reducible refine LaterOf.later ?_ _) | (with_reducible refine LaterOf.setCell ?_ (by first | exact Nat.le_refl _ | (simp; done) | omega | (simp; omega)) _)))⟩
def clashB (s : ShopR) (L : List JobR) (x y : SlotR) : Bool := (y.mach == x.mach) && (!followsB s L y x && !followsB s L x y)
set_option maxRecDepth 100000 in
set_option maxHeartbeats 1000000 in
theorem clashFn_any (s : ShopR) (A : Option Addr) (c : Nat) (L : List JobR) (x y : SlotR) (b1 b2 b3 : Nat) (w : World) (hs : IsShop w s) (h : IsJobs w A c L) (gp : GoodP s L) (hx : 0 ≤ x.job ∧ x.job < L.length) (hxm : 0 ≤ x.mach ∧ x.mach < s.cals.length) (hy : 0 ≤ y.job ∧ y.job < L.length)
    (g1 : SlotAt w b1 x) (g2 : ShopAt w b2 s) (g3 : w.cell? ⟨b3, 0, none⟩ = some (.slice A L.length c)) (hO3 : Nonempty (Old w b3)) :
    Gives Try.prog 83 #[slotV y, .pointer (some ⟨b1, 0, none⟩), .pointer (some ⟨b2, 0, none⟩), .pointer (some ⟨b3, 0, none⟩)] w (.bool (clashB s L x y)) := by
  apply Gives.ret
  have e : clashB s L x y = ((y.mach == x.mach) && (!followsB s L y x && !followsB s L x y)) := rfl
  rw [e]
  clear e
  by_cases hm : y.mach = x.mach
  · have F1 := fun W hW => follows_any s A c L y x W (hs.of hW) (h.of hW) gp (by rw [hm]; exact hxm) hy hx
    have F2 := fun W hW => follows_any s A c L x y W (hs.of hW) (h.of hW) gp hxm hx hy
    have t : (y.mach == x.mach) = true := by simpa using hm
    generalize followsB s L y x = q1 at *
    generalize followsB s L x y = q2 at *
    obtain ⟨c0, c1, c2, c3, hO1⟩ := g1
    obtain ⟨d0, d1, d2, hO2⟩ := g2
    clear hs h gp hm
    rw [t]
    cases q1
    · go_enter Try.func83, Try.ntmps83
      go_wp2_with fail
      refine (F1 _ (by (repeat (first | (with_reducible exact SinceOf.refl _) | (with_reducible assumption) | (with_reducible refine SinceOf.alloc ?_ _) | (with_reducible refine SinceOf.drew ?_) | (with_reducible refine SinceOf.drewN ?_ _) | (with_reducible refine SinceOf.later ?_ _) | (with_reducible refine SinceOf.further ?_ _) | (with_reducible refine SinceOf.setCell ?_ (by first | exact Nat.le_refl _ | (simp; done) | omega | (simp; omega)) _))))).calls.mono ?_
      rintro e _ ⟨rfl, x1, rfl⟩
      go_wp2_with fail
      refine (F2 _ (by (repeat (first | (with_reducible exact SinceOf.refl _) | (with_reducible assumption) | (with_reducible refine SinceOf.alloc ?_ _) | (with_reducible refine SinceOf.drew ?_) | (with_reducible refine SinceOf.drewN ?_ _) | (with_reducible refine SinceOf.later ?_ _) | (with_reducible refine SinceOf.further ?_ _) | (with_reducible refine SinceOf.setCell ?_ (by first | exact Nat.le_refl _ | (simp; done) | omega | (simp; omega)) _))))).calls.mono ?_
      rintro e _ ⟨rfl, x2, rfl⟩
      go_wp2_with fail
      go_returns
      exact ⟨by simp, by (repeat (first | (with_reducible exact LaterOf.refl _) | (with_reducible refine LaterOf.alloc ?_ _) | (with_reducible refine LaterOf.drew ?_) | (with_reducible refine LaterOf.drewN ?_ _) | (with_reducible refine LaterOf.later ?_ _) | (with_reducible refine LaterOf.setCell ?_ (by first | exact Nat.le_refl _ | (simp; done) | omega | (simp; omega)) _)))⟩
    · go_enter Try.func83, Try.ntmps83
      go_wp2_with fail
      refine (F1 _ (by (repeat (first | (with_reducible exact SinceOf.refl _) | (with_reducible assumption) | (with_reducible refine SinceOf.alloc ?_ _) | (with_reducible refine SinceOf.drew ?_) | (with_reducible refine SinceOf.drewN ?_ _) | (with_reducible refine SinceOf.later ?_ _) | (with_reducible refine SinceOf.further ?_ _) | (with_reducible refine SinceOf.setCell ?_ (by first | exact Nat.le_refl _ | (simp; done) | omega | (simp; omega)) _))))).calls.mono ?_
      rintro e _ ⟨rfl, x1, rfl⟩
      go_wp2_with fail
      go_returns
      exact ⟨by simp, by (repeat (first | (with_reducible exact LaterOf.refl _) | (with_reducible refine LaterOf.alloc ?_ _) | (with_reducible refine LaterOf.drew ?_) | (with_reducible refine LaterOf.drewN ?_ _) | (with_reducible refine LaterOf.later ?_ _) | (with_reducible refine LaterOf.setCell ?_ (by first | exact Nat.le_refl _ | (simp; done) | omega | (simp; omega)) _)))⟩
  · have t : (y.mach == x.mach) = false := by simpa using hm
    obtain ⟨c0, c1, c2, c3, hO1⟩ := g1
    clear hs h gp g2 g3 hm
    go_enter Try.func83, Try.ntmps83
    go_wp2_with fail
    go_returns
    exact ⟨by rw [t]; simp, by (repeat (first | (with_reducible exact LaterOf.refl _) | (with_reducible refine LaterOf.alloc ?_ _) | (with_reducible refine LaterOf.drew ?_) | (with_reducible refine LaterOf.drewN ?_ _) | (with_reducible refine LaterOf.later ?_ _) | (with_reducible refine LaterOf.setCell ?_ (by first | exact Nat.le_refl _ | (simp; done) | omega | (simp; omega)) _)))⟩
theorem containsInt_any (A : Option Addr) (c : Nat) (l : List Int) (x : Int) (w : World) (h : IsInts w A c l) (hlen : l.length < 4611686018427387904) : Gives Try.prog 44 #[.slice A l.length c, .int .i64 x] w (.bool (l.any (fun y => x == y))) := by
  apply Gives.ret
  have H := Lib.hid h
  clear h
  have K : Calls Try.prog 63 #[.slice A l.length c, .int .i64 x] w fun e w' => ∃ r : Int, e = .returned (.int .i64 r) ∧ decide (0 ≤ r) = l.any (fun y => x == y) ∧ LaterOf w w' := by
    go_enter Try.func63, Try.ntmps63
    go_wp2_with fail
    go_loopg [8] l.length (fun gas s8 wr => ∃ k : Nat, k ≤ l.length ∧ l.length - k ≤ gas ∧ s8 = .int .i64 k ∧ w = wr ∧ l.any (fun y => x == y) = (l.drop k).any (fun y => x == y))
    case atStart => exact ⟨0, by omega, by omega, rfl, rfl, by rw [List.drop_zero]⟩
    case round =>
      obtain ⟨k, hk, hgas, rfl, rfl, hany⟩ := hrel
      by_cases hlt : k < l.length
      · have hc := H.out
        obtain ⟨g, off, rfl, hr⟩ := hc.at_ (by omega)
        have hO := hr.there
        have k0 := hr.n0 k hlt
        rw [any_drop (fun y => x == y) hlt] at hany
        generalize l[k] = y at *
        clear hc hr
        cases hx : (x == y)
        · rw [hx, Bool.false_or] at hany
          have HA := Lib.hid hany
          clear hany
          go_wp2_with fail
          go_roundg (l.length - (k + 1))
          case measure => omega
          case rel => exact ⟨k + 1, hlt, Nat.le_refl _, by go_num, rfl, HA.out⟩
        · rw [hx, Bool.true_or] at hany
          have HA := Lib.hid hany
          clear hany
          go_wp2_with fail
          go_returns
          exact ⟨k, rfl, by rw [HA.out]; simp, by (repeat (first | (with_reducible exact LaterOf.refl _) | (with_reducible refine LaterOf.alloc ?_ _) | (with_reducible refine LaterOf.drew ?_) | (with_reducible refine LaterOf.drewN ?_ _) | (with_reducible refine LaterOf.later ?_ _) | (with_reducible refine LaterOf.setCell ?_ (by first | exact Nat.le_refl _ | (simp; done) | omega | (simp; omega)) _)))⟩
      · have hkl : k = l.length := by omega
        rw [hkl, List.drop_length] at hany
        have HA := Lib.hid hany
        clear hany
        go_wp2_with fail
        go_returns
        exact ⟨-1, rfl, by rw [HA.out]; rfl, by (repeat (first | (with_reducible exact LaterOf.refl _) | (with_reducible refine LaterOf.alloc ?_ _) | (with_reducible refine LaterOf.drew ?_) | (with_reducible refine LaterOf.drewN ?_ _) | (with_reducible refine LaterOf.later ?_ _) | (with_reducible refine LaterOf.setCell ?_ (by first | exact Nat.le_refl _ | (simp; done) | omega | (simp; omega)) _)))⟩
  go_enter Try.func44, Try.ntmps44
  go_wp2_with fail
  refine K.mono ?_
  rintro e _ ⟨r, rfl, hr, ⟨z, rfl⟩⟩
  have HA := Lib.hid hr
  clear hr
  go_wp2_with fail
  go_returns
  exact ⟨by show Ending.returned (.bool (decide (0 ≤ r))) = _; rw [HA.out], by (repeat (first | (with_reducible exact LaterOf.refl _) | (with_reducible refine LaterOf.alloc ?_ _) | (with_reducible refine LaterOf.drew ?_) | (with_reducible refine LaterOf.drewN ?_ _) | (with_reducible refine LaterOf.later ?_ _) | (with_reducible refine LaterOf.setCell ?_ (by first | exact Nat.le_refl _ | (simp; done) | omega | (simp; omega)) _)))⟩
end Go.Proofs.Ytdcncalcncomoaa
/- Layer 52: slot. -/
namespace Go.Proofs.Ytdcncalcncomoaa
open Go.RowKit Go.Sort
set_option linter.unusedVariables false
attribute [local go_sem ↓] Go.wp_at_zero Go.wp_at_succ

structure JobAt (w : World) (g : Nat) (j : JobR) : Prop where
  c0 : w.cell? ⟨g, 0, none⟩ = some (.slice j.A j.ms.length j.c)
  c1 : w.cell? ⟨g, 1, none⟩ = some (.int .i64 j.dur)
  c2 : w.cell? ⟨g, 2, none⟩ = some (.int .i64 j.cls)
  c3 : w.cell? ⟨g, 3, none⟩ = some (.int .i64 j.rel)
  c4 : w.cell? ⟨g, 4, none⟩ = some (.int .i64 j.due)
  c5 : w.cell? ⟨g, 5, none⟩ = some (.int .i64 j.ord)
  there : Nonempty (Old w g)
structure CalOn (w : World) (g : Nat) (k : CalR) : Prop where
  c0 : w.cell? ⟨g, 0, none⟩ = some (.int .i64 k.P)
  c1 : w.cell? ⟨g, 1, none⟩ = some (.slice k.A k.S.length k.c)
  c2 : w.cell? ⟨g, 2, none⟩ = some (.slice k.B k.D.length k.d)
  there : Nonempty (Old w g)
def nameB (s : ShopR) (L : List JobR) (x : SlotR) : Bool := (decide (0 ≤ x.job) && decide (x.job ≤ (L.length : Int) - 1)) && (decide (0 ≤ x.mach) && decide (x.mach ≤ (s.cals.length : Int) - 1))
def finishAt (s : ShopR) (m t k : Int) : Int × Int := finishV (calAt s m).P (calAt s m).S (calAt s m).D t k
def openAt (s : ShopR) (m t : Int) : Bool := openV (calAt s m).P (calAt s m).S (calAt s m).D t
def shiftB (s : ShopR) (L : List JobR) (x : SlotR) : Bool := openAt s x.mach x.start && ((finishAt s x.mach x.start (jobAt L x.job).dur).2 == 0 && (finishAt s x.mach x.start (jobAt L x.job).dur).1 == x.stop)
/-- The error of a slot behind others. -/
def slotE (s : ShopR) (L : List JobR) (ahead : List SlotR) (x : SlotR) : Int :=
  if nameB s L x = false then 6 else if ahead.any (fun y => y.job == x.job) = true then 7 else if (jobAt L x.job).ms.any (fun m => x.mach == m) = false then 25 else if x.start < (jobAt L x.job).rel then 22 else
  if shiftB s L x = false then 26 else if ahead.any (clashB s L x) = true then 27 else 0
/-- All slots name jobs and machines of the problem. -/
def NamedS (s : ShopR) (L : List JobR) (l : List SlotR) : Prop := ∀ y ∈ l, nameB s L y = true
theorem nameB_iff {s : ShopR} {L : List JobR} {x : SlotR} : nameB s L x = true ↔ (0 ≤ x.job ∧ x.job < L.length) ∧ (0 ≤ x.mach ∧ x.mach < s.cals.length) := by
  unfold nameB; simp; omega
set_option maxRecDepth 100000 in
set_option maxHeartbeats 8000000 in
theorem slot_any (s : ShopR) (A : Option Addr) (c : Nat) (L : List JobR) (B : Option Addr) (d : Nat) (l : List SlotR) (x : SlotR) (w : World) (hs : IsShop w s) (h : IsJobs w A c L) (gp : GoodP s L) (hl : IsSlots w B d l) (hll : l.length < 4611686018427387904) (hn : NamedS s L l) :
    Gives Try.prog 64 #[shopV s, .slice A L.length c, .slice B l.length d, slotV x] w (.int .i64 (slotE s L l x)) := by
  apply Gives.ret
  have hcl := hs.cals.len
  have hrl := hs.rows.len
  have hjl := h.len
  have I1 := fun W => in_any x.job 0 ((L.length : Int) - 1) W
  have I2 := fun W => in_any x.mach 0 ((s.cals.length : Int) - 1) W
  have hnb : nameB s L x = ((decide (0 ≤ x.job) && decide (x.job ≤ (L.length : Int) - 1)) && (decide (0 ≤ x.mach) && decide (x.mach ≤ (s.cals.length : Int) - 1))) := rfl
  have hni := nameB_iff (s := s) (L := L) (x := x)
  generalize (decide (0 ≤ x.job) && decide (x.job ≤ (L.length : Int) - 1)) = q1 at *
  generalize (decide (0 ≤ x.mach) && decide (x.mach ≤ (s.cals.length : Int) - 1)) = q2 at *
  have hcase : (q1 = false ∨ (q1 = true ∧ q2 = false)) ∨ (q1 = true ∧ q2 = true) := by cases q1 <;> cases q2 <;> simp
  rcases hcase with hcase | ⟨rfl, rfl⟩
  · have hf : slotE s L l x = 6 := by
      unfold slotE
      rw [if_pos]
      rw [hnb]; rcases hcase with rfl | ⟨rfl, rfl⟩ <;> rfl
    rw [hf]
    clear hs h gp hl hn hnb hni hf
    rcases hcase with rfl | ⟨rfl, rfl⟩
    · go_enter Try.func64, Try.ntmps64
      go_wp2_with fail
      refine (I1 _).mono ?_
      rintro e w' ⟨rfl, rfl⟩
      go_wp2_with fail
      go_returns
      exact ⟨rfl, by (repeat (first | (with_reducible exact LaterOf.refl _) | (with_reducible refine LaterOf.alloc ?_ _) | (with_reducible refine LaterOf.drew ?_) | (with_reducible refine LaterOf.drewN ?_ _) | (with_reducible refine LaterOf.later ?_ _) | (with_reducible refine LaterOf.setCell ?_ (by first | exact Nat.le_refl _ | (simp; done) | omega | (simp; omega)) _)))⟩
    · go_enter Try.func64, Try.ntmps64
      go_wp2_with fail
      refine (I1 _).mono ?_
      rintro e w' ⟨rfl, rfl⟩
      go_wp2_with fail
      refine (I2 _).mono ?_
      rintro e w' ⟨rfl, rfl⟩
      go_wp2_with fail
      go_returns
      exact ⟨rfl, by (repeat (first | (with_reducible exact LaterOf.refl _) | (with_reducible refine LaterOf.alloc ?_ _) | (with_reducible refine LaterOf.drew ?_) | (with_reducible refine LaterOf.drewN ?_ _) | (with_reducible refine LaterOf.later ?_ _) | (with_reducible refine LaterOf.setCell ?_ (by first | exact Nat.le_refl _ | (simp; done) | omega | (simp; omega)) _)))⟩
  · have hnt : nameB s L x = true := hnb
    obtain ⟨hxj, hxm⟩ := hni.1 hnt
    have hse : slotE s L l x = if l.any (fun y => y.job == x.job) = true then 7 else if (jobAt L x.job).ms.any (fun m => x.mach == m) = false then 25 else if x.start < (jobAt L x.job).rel then 22 else if shiftB s L x = false then 26 else if l.any (clashB s L x) = true then 27 else 0 := by
      unfold slotE; rw [if_neg (by rw [hnt]; simp)]
    rw [hse]
    clear hse hnb hni
    have SM := fun b W (hW : SinceOf w W) (hb : SlotAt W b x) => containsSame_any (.pointer (some ⟨b, 0, none⟩)) (fun y => y.job == x.job) B d l W (hl.of hW) hll (fun W' hW' y _ => sameFn_any x y b W' (hb.of hW'))
    have CL := fun b1 b2 b3 W (hW : SinceOf w W) (hb1 : SlotAt W b1 x) (hb2 : ShopAt W b2 s) (hb3 : W.cell? ⟨b3, 0, none⟩ = some (.slice A L.length c)) (hO3 : Nonempty (Old W b3)) =>
      containsClash_any (.pointer (some ⟨b1, 0, none⟩)) (.pointer (some ⟨b2, 0, none⟩)) (.pointer (some ⟨b3, 0, none⟩)) (clashB s L x) B d l W (hl.of hW) hll (fun W' hW' y hy => by
        obtain ⟨z, rfl⟩ := hW'
        have hy' := (nameB_iff.1 (hn y hy)).1
        exact clashFn_any s A c L x y b1 b2 b3 z.wd ((hs.of hW).of ⟨z, rfl⟩) ((h.of hW).of ⟨z, rfl⟩) gp hxj hxm hy' (hb1.of ⟨z, rfl⟩) (hb2.of ⟨z, rfl⟩) (by rw [Since.cell]; exact hb3) inferInstance)
    obtain ⟨jn, hjn⟩ : ∃ m : Nat, x.job = m := ⟨x.job.toNat, by omega⟩
    obtain ⟨mn, hmn⟩ : ∃ m : Nat, x.mach = m := ⟨x.mach.toNat, by omega⟩
    have hj' : jn < L.length := by omega
    have hm' : mn < s.cals.length := by omega
    have ej : jobAt L x.job = L[jn] := by rw [hjn]; exact jobAt_at hj'
    have em : calAt s x.mach = s.cals[mn] := by rw [hmn]; exact calAt_at hm'
    have hsb : shiftB s L x = (openV s.cals[mn].P s.cals[mn].S s.cals[mn].D x.start && ((finishV s.cals[mn].P s.cals[mn].S s.cals[mn].D x.start L[jn].dur).2 == 0 && (finishV s.cals[mn].P s.cals[mn].S s.cals[mn].D x.start L[jn].dur).1 == x.stop)) := by
      unfold shiftB openAt finishAt; rw [ej, em]
    rw [ej, hsb]
    have hka := hs.cals.all _ (List.getElem_mem hm')
    have hja := h.all _ (List.getElem_mem hj')
    have FI := fun W hW => finish_any (w := W) x.start L[jn].dur (hka.of hW)
    have OP := fun W hW => open_any (w := W) x.start (hka.of hW)
    have CI := fun W (hW : SinceOf w W) => containsInt_any L[jn].A L[jn].c L[jn].ms x.mach W (hja.1.of hW) hja.2
    simp only [pairV] at FI
    obtain ⟨gc, oc, hAc, hrc⟩ := hs.cals.row.at_ (by omega)
    obtain ⟨gj, oj, hAj, hrj⟩ := h.row.at_ (by omega)
    have hOc := hrc.there
    have hOj := hrj.there
    have c0 := hrc.k0 mn hm'
    have c1 := hrc.k1 mn hm'
    have c2 := hrc.k2 mn hm'
    have j0 := hrj.j0 jn hj'
    have j1 := hrj.j1 jn hj'
    have j2 := hrj.j2 jn hj'
    have j3 := hrj.j3 jn hj'
    have j4 := hrj.j4 jn hj'
    have j5 := hrj.j5 jn hj'
    have HH := Lib.hid (And.intro hrc hrj)
    generalize L[jn] = J at *
    generalize s.cals[mn] = K at *
    generalize finishV K.P K.S K.D x.start J.dur = fv at *
    generalize openV K.P K.S K.D x.start = ov at *
    generalize l.any (fun y => y.job == x.job) = q3 at *
    generalize J.ms.any (fun m => x.mach == m) = q4 at *
    generalize l.any (clashB s L x) = q5 at *
    obtain ⟨fe, fr⟩ := fv
    obtain ⟨xj, xm, xs, xe⟩ := x
    simp only at *
    subst hjn hmn hAj
    obtain ⟨sA, sc, cals, sB, sd, R, most⟩ := s
    simp only at *
    subst hAc
    obtain ⟨v, hv⟩ : ∃ v : Int, v = (if q3 = true then 7 else if q4 = false then 25 else if xs < J.rel then 22 else if (ov && (fr == 0 && fe == xe)) = false then 26 else if q5 = true then 27 else 0) := ⟨_, rfl⟩
    rw [← hv]
    have HV := Lib.hid hv
    clear hs h gp hl hn hnt hrc hrj hka hja ej em hsb HH hv
    go_enter Try.func64, Try.ntmps64
    go_wp2_with fail
    refine (I1 _).mono ?_
    rintro e w' ⟨rfl, rfl⟩
    go_wp2_with fail
    refine (I2 _).mono ?_
    rintro e w' ⟨rfl, rfl⟩
    go_upto_region 3 with fail
    go_cut [9, 10] (fun s9 s10 wx => ∃ g9 g10 : Nat, s9 = .pointer (some ⟨g9, 0, none⟩) ∧ s10 = .pointer (some ⟨g10, 0, none⟩) ∧ JobAt wx g9 J ∧ CalOn wx g10 K ∧ LaterOf (((w.alloc (.cells #[.slice (some ⟨gc, oc, none⟩) cals.length sc, .slice sB R.length sd, .int .i64 most] 40)).alloc (.cells #[.slice (some ⟨gj, oj, none⟩) L.length c] 42)).alloc (.cells #[.int .i64 jn, .int .i64 mn, .int .i64 xs, .int .i64 xe] 34)) wx)
    case first =>
      go_region_held3 (fun w' => w'.cell? ⟨w.heap.size, 0, none⟩ = some (.slice (some ⟨gc, oc, none⟩) cals.length sc) ∧ w'.cell? ⟨w.heap.size + 1, 0, none⟩ = some (.slice (some ⟨gj, oj, none⟩) L.length c) ∧ w'.cell? ⟨w.heap.size + 1 + 1, 0, none⟩ = some (.int .i64 jn) ∧ w'.cell? ⟨w.heap.size + 1 + 1, 1, none⟩ = some (.int .i64 mn) ∧
          w'.cell? ⟨gj, oj + jn * 6, none⟩ = some (.slice J.A J.ms.length J.c) ∧ w'.cell? ⟨gj, oj + jn * 6 + 1, none⟩ = some (.int .i64 J.dur) ∧ w'.cell? ⟨gj, oj + jn * 6 + 2, none⟩ = some (.int .i64 J.cls) ∧ w'.cell? ⟨gj, oj + jn * 6 + 3, none⟩ = some (.int .i64 J.rel) ∧ w'.cell? ⟨gj, oj + jn * 6 + 4, none⟩ = some (.int .i64 J.due) ∧ w'.cell? ⟨gj, oj + jn * 6 + 5, none⟩ = some (.int .i64 J.ord) ∧
          w'.cell? ⟨gc, oc + mn * 3, none⟩ = some (.int .i64 K.P) ∧ w'.cell? ⟨gc, oc + mn * 3 + 1, none⟩ = some (.slice K.A K.S.length K.c) ∧ w'.cell? ⟨gc, oc + mn * 3 + 2, none⟩ = some (.slice K.B K.D.length K.d)) ((simp [go_sem, *])) (fail)
      all_goals
        go_wp2_with fail
        go_meet
        exact ⟨_, _, rfl, rfl, ⟨by simp [go_sem], by simp [go_sem], by simp [go_sem], by simp [go_sem], by simp [go_sem], by simp [go_sem], inferInstance⟩, ⟨by simp [go_sem], by simp [go_sem], by simp [go_sem], inferInstance⟩, by (repeat (first | (with_reducible exact LaterOf.refl _) | (with_reducible refine LaterOf.alloc ?_ _) | (with_reducible refine LaterOf.drew ?_) | (with_reducible refine LaterOf.drewN ?_ _) | (with_reducible refine LaterOf.later ?_ _) | (with_reducible refine LaterOf.setCell ?_ (by first | exact Nat.le_refl _ | (simp; done) | omega | (simp; omega)) _)))⟩
    case rest =>
      obtain ⟨g9, g10, rfl, rfl, ⟨a0, a1, a2, a3, a4, a5, hO9⟩, ⟨d0, d1, d2, hO10⟩, ⟨y, rfl⟩⟩ := hcut
      clear c0 c1 c2 j0 j1 j2 j3 j4 j5
      go_wp2_with fail
      refine (FI _ (by (repeat (first | (with_reducible exact SinceOf.refl _) | (with_reducible assumption) | (with_reducible refine SinceOf.alloc ?_ _) | (with_reducible refine SinceOf.drew ?_) | (with_reducible refine SinceOf.drewN ?_ _) | (with_reducible refine SinceOf.later ?_ _) | (with_reducible refine SinceOf.further ?_ _) | (with_reducible refine SinceOf.setCell ?_ (by first | exact Nat.le_refl _ | (simp; done) | omega | (simp; omega)) _))))).calls.mono ?_
      rintro e _ ⟨rfl, x1, rfl⟩
      go_wp2_with fail
      refine (SM _ _ (by (repeat (first | (with_reducible exact SinceOf.refl _) | (with_reducible assumption) | (with_reducible refine SinceOf.alloc ?_ _) | (with_reducible refine SinceOf.drew ?_) | (with_reducible refine SinceOf.drewN ?_ _) | (with_reducible refine SinceOf.later ?_ _) | (with_reducible refine SinceOf.further ?_ _) | (with_reducible refine SinceOf.setCell ?_ (by first | exact Nat.le_refl _ | (simp; done) | omega | (simp; omega)) _)))) ⟨by simp [go_sem], by simp [go_sem], by simp [go_sem], by simp [go_sem], inferInstance⟩).calls.mono ?_
      rintro e _ ⟨rfl, x2, rfl⟩
      clear SM FI
      cases q3
      · go_wp2_with fail
        refine (CI _ (by (repeat (first | (with_reducible exact SinceOf.refl _) | (with_reducible assumption) | (with_reducible refine SinceOf.alloc ?_ _) | (with_reducible refine SinceOf.drew ?_) | (with_reducible refine SinceOf.drewN ?_ _) | (with_reducible refine SinceOf.later ?_ _) | (with_reducible refine SinceOf.further ?_ _) | (with_reducible refine SinceOf.setCell ?_ (by first | exact Nat.le_refl _ | (simp; done) | omega | (simp; omega)) _))))).calls.mono ?_
        rintro e _ ⟨rfl, x3, rfl⟩
        clear CI
        cases q4
        · go_wp2_with fail
          go_returns
          exact ⟨by rw [HV.out]; simp, by (repeat (first | (with_reducible exact LaterOf.refl _) | (with_reducible refine LaterOf.alloc ?_ _) | (with_reducible refine LaterOf.drew ?_) | (with_reducible refine LaterOf.drewN ?_ _) | (with_reducible refine LaterOf.later ?_ _) | (with_reducible refine LaterOf.setCell ?_ (by first | exact Nat.le_refl _ | (simp; done) | omega | (simp; omega)) _)))⟩
        · by_cases hrel : xs < J.rel
          · have f1 : decide (xs < J.rel) = true := by simpa using hrel
            go_wp2_with fail
            go_returns
            exact ⟨by rw [HV.out]; simp [show xs < J.rel from by simpa using f1], by (repeat (first | (with_reducible exact LaterOf.refl _) | (with_reducible refine LaterOf.alloc ?_ _) | (with_reducible refine LaterOf.drew ?_) | (with_reducible refine LaterOf.drewN ?_ _) | (with_reducible refine LaterOf.later ?_ _) | (with_reducible refine LaterOf.setCell ?_ (by first | exact Nat.le_refl _ | (simp; done) | omega | (simp; omega)) _)))⟩
          · have f1 : decide (xs < J.rel) = false := by simpa using hrel
            have HR := Lib.hid hrel
            clear hrel
            have hsh : (ov = false) ∨ (ov = true ∧ (fr != 0) = true ∧ (fr == 0) = false) ∨ (ov = true ∧ fr = 0 ∧ (fe != xe) = true ∧ (fe == xe) = false) ∨ (ov = true ∧ fr = 0 ∧ fe = xe) := by
              cases ov
              · exact .inl rfl
              · by_cases h0 : fr = 0
                · by_cases h1 : fe = xe
                  · exact .inr (.inr (.inr ⟨rfl, h0, h1⟩))
                  · exact .inr (.inr (.inl ⟨rfl, h0, by simpa using h1, by simpa using h1⟩))
                · exact .inr (.inl ⟨rfl, by simpa using h0, by simpa using h0⟩)
            go_wp2_with fail
            refine (OP _ (by (repeat (first | (with_reducible exact SinceOf.refl _) | (with_reducible assumption) | (with_reducible refine SinceOf.alloc ?_ _) | (with_reducible refine SinceOf.drew ?_) | (with_reducible refine SinceOf.drewN ?_ _) | (with_reducible refine SinceOf.later ?_ _) | (with_reducible refine SinceOf.further ?_ _) | (with_reducible refine SinceOf.setCell ?_ (by first | exact Nat.le_refl _ | (simp; done) | omega | (simp; omega)) _))))).calls.mono ?_
            rintro e _ ⟨rfl, x4, rfl⟩
            clear OP
            rcases hsh with rfl | ⟨rfl, t1, t2⟩ | ⟨rfl, rfl, t1, t2⟩ | ⟨rfl, rfl, rfl⟩
            · go_wp2_with fail
              go_returns
              exact ⟨by rw [HV.out]; simp [show ¬ xs < J.rel from by have := HR.out; omega], by (repeat (first | (with_reducible exact LaterOf.refl _) | (with_reducible refine LaterOf.alloc ?_ _) | (with_reducible refine LaterOf.drew ?_) | (with_reducible refine LaterOf.drewN ?_ _) | (with_reducible refine LaterOf.later ?_ _) | (with_reducible refine LaterOf.setCell ?_ (by first | exact Nat.le_refl _ | (simp; done) | omega | (simp; omega)) _)))⟩
            · go_wp2_with fail
              go_returns
              exact ⟨by rw [HV.out]; simp [show ¬ xs < J.rel from by have := HR.out; omega, t2], by (repeat (first | (with_reducible exact LaterOf.refl _) | (with_reducible refine LaterOf.alloc ?_ _) | (with_reducible refine LaterOf.drew ?_) | (with_reducible refine LaterOf.drewN ?_ _) | (with_reducible refine LaterOf.later ?_ _) | (with_reducible refine LaterOf.setCell ?_ (by first | exact Nat.le_refl _ | (simp; done) | omega | (simp; omega)) _)))⟩
            · go_wp2_with fail
              go_returns
              exact ⟨by rw [HV.out]; simp [show ¬ xs < J.rel from by have := HR.out; omega, t2], by (repeat (first | (with_reducible exact LaterOf.refl _) | (with_reducible refine LaterOf.alloc ?_ _) | (with_reducible refine LaterOf.drew ?_) | (with_reducible refine LaterOf.drewN ?_ _) | (with_reducible refine LaterOf.later ?_ _) | (with_reducible refine LaterOf.setCell ?_ (by first | exact Nat.le_refl _ | (simp; done) | omega | (simp; omega)) _)))⟩
            · go_wp2_with fail
              refine (CL _ _ _ _ (by (repeat (first | (with_reducible exact SinceOf.refl _) | (with_reducible assumption) | (with_reducible refine SinceOf.alloc ?_ _) | (with_reducible refine SinceOf.drew ?_) | (with_reducible refine SinceOf.drewN ?_ _) | (with_reducible refine SinceOf.later ?_ _) | (with_reducible refine SinceOf.further ?_ _) | (with_reducible refine SinceOf.setCell ?_ (by first | exact Nat.le_refl _ | (simp; done) | omega | (simp; omega)) _)))) ⟨by simp [go_sem], by simp [go_sem], by simp [go_sem], by simp [go_sem], inferInstance⟩ ⟨by simp [go_sem], by simp [go_sem], by simp [go_sem], inferInstance⟩ (by simp [go_sem]) inferInstance).calls.mono ?_
              rintro e _ ⟨rfl, x5, rfl⟩
              clear CL
              cases q5
              · go_wp2_with fail
                go_returns
                exact ⟨by rw [HV.out]; simp [show ¬ xs < J.rel from by have := HR.out; omega], by (repeat (first | (with_reducible exact LaterOf.refl _) | (with_reducible refine LaterOf.alloc ?_ _) | (with_reducible refine LaterOf.drew ?_) | (with_reducible refine LaterOf.drewN ?_ _) | (with_reducible refine LaterOf.later ?_ _) | (with_reducible refine LaterOf.setCell ?_ (by first | exact Nat.le_refl _ | (simp; done) | omega | (simp; omega)) _)))⟩
              · go_wp2_with fail
                go_returns
                exact ⟨by rw [HV.out]; simp [show ¬ xs < J.rel from by have := HR.out; omega], by (repeat (first | (with_reducible exact LaterOf.refl _) | (with_reducible refine LaterOf.alloc ?_ _) | (with_reducible refine LaterOf.drew ?_) | (with_reducible refine LaterOf.drewN ?_ _) | (with_reducible refine LaterOf.later ?_ _) | (with_reducible refine LaterOf.setCell ?_ (by first | exact Nat.le_refl _ | (simp; done) | omega | (simp; omega)) _)))⟩
      · go_wp2_with fail
        go_returns
        exact ⟨by rw [HV.out]; simp, by (repeat (first | (with_reducible exact LaterOf.refl _) | (with_reducible refine LaterOf.alloc ?_ _) | (with_reducible refine LaterOf.drew ?_) | (with_reducible refine LaterOf.drewN ?_ _) | (with_reducible refine LaterOf.later ?_ _) | (with_reducible refine LaterOf.setCell ?_ (by first | exact Nat.le_refl _ | (simp; done) | omega | (simp; omega)) _)))⟩
end Go.Proofs.Ytdcncalcncomoaa
/- Layer 52: open. -/
namespace Go.Proofs.Ytdcncalcncomoaa
open Go.RowKit Go.Sort
set_option linter.unusedVariables false
attribute [local go_sem ↓] Go.wp_at_zero Go.wp_at_succ

/-- Block g is a table of 1001 bools. -/
structure Bools (w : World) (g : Nat) (F : Nat → Bool) : Prop where
  cell : ∀ o, o < 1001 → w.cell? ⟨g, o, none⟩ = some (.bool (F o))
  free : ∀ o, o < 1001 → w.frozen? ⟨g, o, none⟩ = false
  there : Nonempty (Old w g)
theorem Bools.of {w w' : World} {g : Nat} {F : Nat → Bool} (h : Bools w g F) (hs : SinceOf w w') : Bools w' g F := by
  obtain ⟨z, rfl⟩ := hs
  have := h.there
  exact ⟨fun o ho => by rw [Since.cell]; exact h.cell o ho, fun o ho => by rw [Since.frozen]; exact h.free o ho, inferInstance⟩
theorem Bools.set {w : World} {g : Nat} {F : Nat → Bool} (h : Bools w g F) (n : Nat) (v : Bool) : Bools (w.setCell ⟨g, n, none⟩ (.bool v)) g (fun o => if o = n then v else F o) := by
  have := h.there
  refine ⟨fun o ho => ?_, fun o ho => by rw [World.frozen?_setCell]; exact h.free o ho, inferInstance⟩
  by_cases e : o = n
  · subst e
    rw [if_pos rfl]
    exact World.cell?_setCell_same _ _ _ (h.cell o ho)
  · rw [if_neg e, World.cell?_setCell_other _ _ _ _ (by intro h; injection h with _ h2 _; exact e h2.symm)]
    exact h.cell o ho
theorem Bools.other {w : World} {g : Nat} {F : Nat → Bool} (h : Bools w g F) (b n : Nat) (u : Value) (hne : g ≠ b) : Bools (w.setCell ⟨b, n, none⟩ u) g F := by
  have := h.there
  refine ⟨fun o ho => ?_, fun o ho => by rw [World.frozen?_setCell]; exact h.free o ho, inferInstance⟩
  rw [World.cell?_setCell_other _ _ _ _ (by intro h; injection h with h1; exact hne h1.symm)]
  exact h.cell o ho
theorem zeros : Try.zeroCells139 = Array.replicate 1001 (.bool false) := by kernel_rfl
def ordAt (L : List JobR) (x : SlotR) : Int := (jobAt L x.job).ord
def begunB (L : List JobR) (t : Int) (l : List SlotR) (o : Nat) : Bool := l.any fun x => ordAt L x == o && decide (x.start ≤ t)
def unfinB (L : List JobR) (t : Int) (l : List SlotR) (o : Nat) : Bool := l.any fun x => ordAt L x == o && decide (t < x.stop)
def openTo (L : List JobR) (t : Int) (l : List SlotR) (n : Nat) : Int := ((List.range n).countP fun o => begunB L t l o && unfinB L t l o : Nat)
def openN (L : List JobR) (t : Int) (l : List SlotR) : Int := openTo L t l 1001
theorem openTo_succ (L : List JobR) (t : Int) (l : List SlotR) (n : Nat) : openTo L t l (n + 1) = openTo L t l n + (if (begunB L t l n && unfinB L t l n) = true then 1 else 0) := by
  unfold openTo; rw [List.range_succ, List.countP_append]
  simp only [List.countP_singleton]
  split <;> simp
theorem openTo_le (L : List JobR) (t : Int) (l : List SlotR) (n : Nat) : 0 ≤ openTo L t l n ∧ openTo L t l n ≤ n := by
  unfold openTo
  have := List.countP_le_length (p := fun o => begunB L t l o && unfinB L t l o) (l := List.range n)
  rw [List.length_range] at this
  omega
theorem begun_cons (L : List JobR) (t : Int) {l : List SlotR} {k : Nat} (h : k < l.length) (o : Nat) : begunB L t (l.drop k) o = ((ordAt L l[k] == o && decide (l[k].start ≤ t)) || begunB L t (l.drop (k + 1)) o) := by
  unfold begunB; rw [List.drop_eq_getElem_cons h, List.any_cons]
theorem unfin_cons (L : List JobR) (t : Int) {l : List SlotR} {k : Nat} (h : k < l.length) (o : Nat) : unfinB L t (l.drop k) o = ((ordAt L l[k] == o && decide (t < l[k].stop)) || unfinB L t (l.drop (k + 1)) o) := by
  unfold unfinB; rw [List.drop_eq_getElem_cons h, List.any_cons]
theorem turned {F : Nat → Bool} {n : Nat} {q : Bool} {r R : Nat → Bool} (h : ∀ o, R o = (F o || (((n : Int) == (o : Int)) && q || r o))) : ∀ o, R o = ((if o = n then (F n || q) else F o) || r o) := by
  intro o
  rw [h o]
  by_cases e : o = n
  · subst e; rw [if_pos rfl, show ((o : Int) == (o : Int)) = true from by simp]; cases F o <;> cases q <;> simp
  · rw [if_neg e, show ((n : Int) == (o : Int)) = false from by simp; omega]; simp

set_option maxRecDepth 100000 in
set_option maxHeartbeats 4000000 in
theorem openS_any (A : Option Addr) (c : Nat) (L : List JobR) (B : Option Addr) (d : Nat) (l : List SlotR) (t : Int) (w : World) (h : IsJobs w A c L) (hl : IsSlots w B d l) (hll : l.length < 4611686018427387904)
    (hn : ∀ y ∈ l, 0 ≤ y.job ∧ y.job < L.length) (hord : ∀ j ∈ L, 0 ≤ j.ord ∧ j.ord ≤ 1000) :
    Gives Try.prog 65 #[.slice A L.length c, .slice B l.length d, .int .i64 t] w (.int .i64 (openN L t l)) := by
  apply Gives.ret
  have hjl := h.len
  have H := Lib.hid (And.intro h (And.intro hl (And.intro hn hord)))
  clear h hl hn hord
  go_enter Try.func65, Try.ntmps65
  go_wp2_with fail
  have z1 : Bools ((w.alloc (.cells Try.zeroCells139 139)).alloc (.cells Try.zeroCells139 139)) w.heap.size (fun _ => false) := by
    rw [zeros]
    exact ⟨fun o ho => by simp [go_sem, ho], fun o ho => by simp [go_sem], inferInstance⟩
  have z2 : Bools ((w.alloc (.cells Try.zeroCells139 139)).alloc (.cells Try.zeroCells139 139)) (w.heap.size + 1) (fun _ => false) := by
    rw [zeros]
    exact ⟨fun o ho => by simp [go_sem, ho], fun o ho => by simp [go_sem], inferInstance⟩
  generalize hW0 : (w.alloc (.cells Try.zeroCells139 139)).alloc (.cells Try.zeroCells139 139) = W0 at *
  have hW : LaterOf w W0 := by rw [← hW0]; exact (LaterOf.alloc (LaterOf.alloc (LaterOf.refl w) _) _)
  clear hW0
  have HZ := Lib.hid (And.intro hW (And.intro z1 z2))
  clear hW z1 z2
  go_loopg [16] l.length (fun gas s16 wr => ∃ (k : Nat) (F G : Nat → Bool), k ≤ l.length ∧ l.length - k ≤ gas ∧ s16 = .int .i64 k ∧ LaterOf w wr ∧ Bools wr w.heap.size F ∧ Bools wr (w.heap.size + 1) G ∧ (∀ o, begunB L t l o = (F o || begunB L t (l.drop k) o)) ∧ (∀ o, unfinB L t l o = (G o || unfinB L t (l.drop k) o)))
  case atStart => exact ⟨0, fun _ => false, fun _ => false, by omega, by omega, rfl, HZ.out.1, HZ.out.2.1, HZ.out.2.2, fun o => by rw [List.drop_zero, Bool.false_or], fun o => by rw [List.drop_zero, Bool.false_or]⟩
  case round =>
    obtain ⟨k, F, G, hk, hgas, rfl, hz, hB, hU, hb, hu⟩ := hrel
    by_cases hlt : k < l.length
    · have hrl := (H.out.2.1.of hz.since)
      have hrj0 := (H.out.1.of hz.since)
      obtain ⟨hx0, hx1⟩ := H.out.2.2.1 _ (List.getElem_mem hlt)
      obtain ⟨jn, hjn⟩ : ∃ m : Nat, l[k].job = m := ⟨l[k].job.toNat, by omega⟩
      have hj' : jn < L.length := by omega
      obtain ⟨ho0, ho1⟩ := H.out.2.2.2 _ (List.getElem_mem hj')
      obtain ⟨n, hn⟩ : ∃ m : Nat, L[jn].ord = m := ⟨L[jn].ord.toNat, by omega⟩
      have hn1 : n < 1001 := by omega
      have eo : ordAt L l[k] = n := by unfold ordAt; rw [hjn, jobAt_at hj', hn]
      have hb2 := turned (F := F) (R := begunB L t l) (n := n) (q := decide (l[k].start ≤ t)) (r := begunB L t (l.drop (k + 1))) (fun o => by rw [hb o, begun_cons L t hlt, eo])
      have hu2 := turned (F := G) (R := unfinB L t l) (n := n) (q := decide (t < l[k].stop)) (r := unfinB L t (l.drop (k + 1))) (fun o => by rw [hu o, unfin_cons L t hlt, eo])
      obtain ⟨gs, os, rfl, hrs⟩ := hrl.at_ (by omega)
      obtain ⟨gj, oj, rfl, hrj⟩ := hrj0.row.at_ (by omega)
      have hOs := hrs.there
      have hOj := hrj.there
      have s0 := hrs.s0 k hlt
      have s1 := hrs.s1 k hlt
      have s2 := hrs.s2 k hlt
      have s3 := hrs.s3 k hlt
      have j5 := hrj.j5 jn hj'
      rw [hjn] at s0
      rw [hn] at j5
      have cB := hB.cell n hn1
      have fB := hB.free n hn1
      have cU := hU.cell n hn1
      have fU := hU.free n hn1
      have hOB := hB.there
      have hOU := hU.there
      have hlt2 : w.heap.size + 1 < wr.heap.size := hOU.elim fun h => h.lt
      have hp1 : Nonempty (Apart wr.heap.size w.heap.size) := ⟨⟨by omega⟩⟩
      have hp2 : Nonempty (Apart wr.heap.size (w.heap.size + 1)) := ⟨⟨by omega⟩⟩
      generalize l[k].start = xs at *
      generalize l[k].stop = xe at *
      generalize l[k].mach = xm at *
      have HR := Lib.hid (And.intro hz (And.intro hB (And.intro hU (And.intro hb2 hu2))))
      clear hz hB hU hb hu hb2 hu2 hrs hrj hrj0 hrl hjn hn eo hx0 hx1 ho0 ho1
      cases hF : F n <;> cases hG : G n
      all_goals
        rw [hF] at cB
        rw [hG] at cU
        have HFG := Lib.hid (And.intro hF hG)
        clear hF hG
        go_wp2_with fail
        go_roundg (l.length - (k + 1))
        case measure => omega
        case rel =>
          obtain ⟨hz, hB, hU, hb2, hu2⟩ := HR.out
          refine ⟨k + 1, fun o => if o = n then (F n || decide (xs ≤ t)) else F o, fun o => if o = n then (G n || decide (t < xe)) else G o, hlt, Nat.le_refl _, by go_num, ((hz.alloc _).setCell (Nat.le_refl _) _).setCell (Nat.le_succ _) _, ?_, ?_, hb2, hu2⟩
          · rw [HFG.out.1]
            first | rw [Bool.false_or] | rw [Bool.true_or]
            exact ((hB.of ((SinceOf.refl _).alloc _)).set n _).other _ n _ (by omega)
          · rw [HFG.out.2]
            first | rw [Bool.false_or] | rw [Bool.true_or]
            exact ((hU.of ((SinceOf.refl _).alloc _)).other _ n _ (by omega)).set n _
    · have hkl : k = l.length := by omega
      have eb : ∀ o, begunB L t l o = F o := fun o => by rw [hb o, hkl, List.drop_length]; simp [begunB]
      have eu : ∀ o, unfinB L t l o = G o := fun o => by rw [hu o, hkl, List.drop_length]; simp [unfinB]
      have HR := Lib.hid (And.intro hz (And.intro hB (And.intro hU (And.intro eb eu))))
      have hOB := hB.there
      have hOU := hU.there
      clear hz hB hU hb hu eb eu hkl
      go_wp2_with fail
      go_loopg [12, 49] 1001 (fun gas s12 s49 wx => ∃ o : Nat, o ≤ 1001 ∧ 1001 - o ≤ gas ∧ s12 = .int .i64 (openTo L t l o) ∧ s49 = .int .i64 o ∧ wr = wx)
      case atStart => exact ⟨0, by omega, by omega, rfl, rfl, rfl⟩
      case round =>
        obtain ⟨o, ho, hgas2, rfl, rfl, rfl⟩ := hrel
        by_cases hlto : o < 1001
        · have cB := HR.out.2.1.cell o hlto
          have cU := HR.out.2.2.1.cell o hlto
          have hsu := openTo_succ L t l o
          rw [HR.out.2.2.2.1 o, HR.out.2.2.2.2 o] at hsu
          have hle := openTo_le L t l o
          generalize openTo L t l o = cn at *
          have hlt3 : o < 1001 := hlto
          cases hF : F o
          · rw [hF] at cB hsu
            simp at hsu
            have HS := Lib.hid hsu
            clear hsu hF
            go_wp2_with fail
            go_roundg (1001 - (o + 1))
            case measure => omega
            case rel => exact ⟨o + 1, hlto, Nat.le_refl _, by rw [HS.out], by go_num, rfl⟩
          · cases hG : G o
            · rw [hF] at cB
              rw [hF, hG] at hsu
              rw [hG] at cU
              simp at hsu
              have HS := Lib.hid hsu
              clear hsu hF hG
              go_wp2_with fail
              go_roundg (1001 - (o + 1))
              case measure => omega
              case rel => exact ⟨o + 1, hlto, Nat.le_refl _, by rw [HS.out], by go_num, rfl⟩
            · rw [hF] at cB
              rw [hF, hG] at hsu
              rw [hG] at cU
              simp at hsu
              have HS := Lib.hid hsu
              clear hsu hF hG
              go_wp2_with fail
              go_roundg (1001 - (o + 1))
              case measure => omega
              case rel => exact ⟨o + 1, hlto, Nat.le_refl _, by rw [HS.out], by go_num, rfl⟩
        · have hol : o = 1001 := by omega
          subst hol
          go_wp2_with fail
          go_returns
          exact ⟨rfl, HR.out.1⟩
end Go.Proofs.Ytdcncalcncomoaa
