/- Layer 52: the closures over slots, IndexFunc, ContainsFunc; Contains of ints. -/
import Derived.Test.YtdcncalcncomoaaSch6
namespace Go.Proofs.Ytdcncalcncomoaa
open Go.RowKit Go.Sort
set_option linter.unusedVariables false
attribute [local go_sem ↓] Go.wp_at_zero Go.wp_at_succ

set_option maxRecDepth 100000 in
set_option maxHeartbeats 2000000 in
theorem indexSame_any (v1 : Value) (p : SlotR → Bool) (A : Option Addr) (c : Nat) (l : List SlotR) (w : World) (h : IsSlots w A c l) (hlen : l.length < 4611686018427387904) (hf : ∀ W, SinceOf w W → ∀ y ∈ l, Gives Try.prog 81 #[slotV y, v1] W (.bool (p y))) :
    Calls Try.prog 70 #[.slice A l.length c, .func (.func 81) #[] #[v1]] w fun e w' => ∃ r : Int, e = .returned (.int .i64 r) ∧ decide (0 ≤ r) = l.any p ∧ LaterOf w w' := by
  have H := Lib.hid h
  clear h
  go_enter Try.func70, Try.ntmps70
  go_wp2_with fail
  go_loopg [8] l.length (fun gas s8 wr => ∃ k : Nat, k ≤ l.length ∧ l.length - k ≤ gas ∧ s8 = .int .i64 k ∧ LaterOf w wr ∧ l.any p = (l.drop k).any p)
  case atStart => exact ⟨0, by omega, by omega, rfl, by (repeat (first | (with_reducible exact LaterOf.refl _) | (with_reducible refine LaterOf.alloc ?_ _) | (with_reducible refine LaterOf.drew ?_) | (with_reducible refine LaterOf.drewN ?_ _) | (with_reducible refine LaterOf.later ?_ _) | (with_reducible refine LaterOf.setCell ?_ (by first | exact Nat.le_refl _ | (simp; done) | omega | (simp; omega)) _))), by rw [List.drop_zero]⟩
  case round =>
    obtain ⟨k, hk, hgas, rfl, ⟨z, rfl⟩, hany⟩ := hrel
    by_cases hlt : k < l.length
    · have hc := (H.out.of (LaterOf.since ⟨z, rfl⟩))
      have C := hf z.wd (LaterOf.since ⟨z, rfl⟩) _ (List.getElem_mem hlt)
      obtain ⟨g, off, rfl, hr⟩ := hc.at_ (by omega)
      have hO := hr.there
      have k0 := hr.s0 k hlt
      have k1 := hr.s1 k hlt
      have k2 := hr.s2 k hlt
      have k3 := hr.s3 k hlt
      rw [any_drop p hlt] at hany
      generalize l[k] = x at *
      clear hc hr
      cases hx : p x
      · rw [hx] at C hany
        rw [Bool.false_or] at hany
        have HA := Lib.hid hany
        clear hany hx
        go_wp2_with fail
        refine C.calls.mono ?_
        rintro e _ ⟨rfl, x1, rfl⟩
        go_wp2_with fail
        go_roundg (l.length - (k + 1))
        case measure => omega
        case rel => exact ⟨k + 1, hlt, Nat.le_refl _, by go_num, by (repeat (first | (with_reducible exact LaterOf.refl _) | (with_reducible refine LaterOf.alloc ?_ _) | (with_reducible refine LaterOf.drew ?_) | (with_reducible refine LaterOf.drewN ?_ _) | (with_reducible refine LaterOf.later ?_ _) | (with_reducible refine LaterOf.setCell ?_ (by first | exact Nat.le_refl _ | (simp; done) | omega | (simp; omega)) _))), HA.out⟩
      · rw [hx] at C hany
        rw [Bool.true_or] at hany
        have HA := Lib.hid hany
        clear hany hx
        go_wp2_with fail
        refine C.calls.mono ?_
        rintro e _ ⟨rfl, x1, rfl⟩
        go_wp2_with fail
        go_returns
        exact ⟨k, rfl, by rw [HA.out]; simp, by (repeat (first | (with_reducible exact LaterOf.refl _) | (with_reducible refine LaterOf.alloc ?_ _) | (with_reducible refine LaterOf.drew ?_) | (with_reducible refine LaterOf.drewN ?_ _) | (with_reducible refine LaterOf.later ?_ _) | (with_reducible refine LaterOf.setCell ?_ (by first | exact Nat.le_refl _ | (simp; done) | omega | (simp; omega)) _)))⟩
    · have hkl : k = l.length := by omega
      rw [hkl, List.drop_length] at hany
      have HA := Lib.hid hany
      clear hany
      go_wp2_with fail
      go_returns
      exact ⟨-1, rfl, by rw [HA.out]; rfl, by (repeat (first | (with_reducible exact LaterOf.refl _) | (with_reducible refine LaterOf.alloc ?_ _) | (with_reducible refine LaterOf.drew ?_) | (with_reducible refine LaterOf.drewN ?_ _) | (with_reducible refine LaterOf.later ?_ _) | (with_reducible refine LaterOf.setCell ?_ (by first | exact Nat.le_refl _ | (simp; done) | omega | (simp; omega)) _)))⟩
theorem containsSame_any (v1 : Value) (p : SlotR → Bool) (A : Option Addr) (c : Nat) (l : List SlotR) (w : World) (h : IsSlots w A c l) (hlen : l.length < 4611686018427387904) (hf : ∀ W, SinceOf w W → ∀ y ∈ l, Gives Try.prog 81 #[slotV y, v1] W (.bool (p y))) :
    Gives Try.prog 53 #[.slice A l.length c, .func (.func 81) #[] #[v1]] w (.bool (l.any p)) := by
  apply Gives.ret
  have H := Lib.hid (And.intro h hf)
  clear h hf
  go_enter Try.func53, Try.ntmps53
  go_wp2_with fail
  refine (indexSame_any v1 p A c l _ H.out.1 hlen H.out.2).mono ?_
  rintro e _ ⟨r, rfl, hr, ⟨z, rfl⟩⟩
  have HA := Lib.hid hr
  clear hr
  go_wp2_with fail
  go_returns
  exact ⟨by show Ending.returned (.bool (decide (0 ≤ r))) = _; rw [HA.out], by (repeat (first | (with_reducible exact LaterOf.refl _) | (with_reducible refine LaterOf.alloc ?_ _) | (with_reducible refine LaterOf.drew ?_) | (with_reducible refine LaterOf.drewN ?_ _) | (with_reducible refine LaterOf.later ?_ _) | (with_reducible refine LaterOf.setCell ?_ (by first | exact Nat.le_refl _ | (simp; done) | omega | (simp; omega)) _)))⟩
set_option maxRecDepth 100000 in
set_option maxHeartbeats 2000000 in
theorem indexClash_any (v1 v2 v3 : Value) (p : SlotR → Bool) (A : Option Addr) (c : Nat) (l : List SlotR) (w : World) (h : IsSlots w A c l) (hlen : l.length < 4611686018427387904) (hf : ∀ W, SinceOf w W → ∀ y ∈ l, Gives Try.prog 83 #[slotV y, v1, v2, v3] W (.bool (p y))) :
    Calls Try.prog 70 #[.slice A l.length c, .func (.func 83) #[] #[v1, v2, v3]] w fun e w' => ∃ r : Int, e = .returned (.int .i64 r) ∧ decide (0 ≤ r) = l.any p ∧ LaterOf w w' := by
  have H := Lib.hid h
  clear h
  go_enter Try.func70, Try.ntmps70
  go_wp2_with fail
  go_loopg [8] l.length (fun gas s8 wr => ∃ k : Nat, k ≤ l.length ∧ l.length - k ≤ gas ∧ s8 = .int .i64 k ∧ LaterOf w wr ∧ l.any p = (l.drop k).any p)
  case atStart => exact ⟨0, by omega, by omega, rfl, by (repeat (first | (with_reducible exact LaterOf.refl _) | (with_reducible refine LaterOf.alloc ?_ _) | (with_reducible refine LaterOf.drew ?_) | (with_reducible refine LaterOf.drewN ?_ _) | (with_reducible refine LaterOf.later ?_ _) | (with_reducible refine LaterOf.setCell ?_ (by first | exact Nat.le_refl _ | (simp; done) | omega | (simp; omega)) _))), by rw [List.drop_zero]⟩
  case round =>
    obtain ⟨k, hk, hgas, rfl, ⟨z, rfl⟩, hany⟩ := hrel
    by_cases hlt : k < l.length
    · have hc := (H.out.of (LaterOf.since ⟨z, rfl⟩))
      have C := hf z.wd (LaterOf.since ⟨z, rfl⟩) _ (List.getElem_mem hlt)
      obtain ⟨g, off, rfl, hr⟩ := hc.at_ (by omega)
      have hO := hr.there
      have k0 := hr.s0 k hlt
      have k1 := hr.s1 k hlt
      have k2 := hr.s2 k hlt
      have k3 := hr.s3 k hlt
      rw [any_drop p hlt] at hany
      generalize l[k] = x at *
      clear hc hr
      cases hx : p x
      · rw [hx] at C hany
        rw [Bool.false_or] at hany
        have HA := Lib.hid hany
        clear hany hx
        go_wp2_with fail
        refine C.calls.mono ?_
        rintro e _ ⟨rfl, x1, rfl⟩
        go_wp2_with fail
        go_roundg (l.length - (k + 1))
        case measure => omega
        case rel => exact ⟨k + 1, hlt, Nat.le_refl _, by go_num, by (repeat (first | (with_reducible exact LaterOf.refl _) | (with_reducible refine LaterOf.alloc ?_ _) | (with_reducible refine LaterOf.drew ?_) | (with_reducible refine LaterOf.drewN ?_ _) | (with_reducible refine LaterOf.later ?_ _) | (with_reducible refine LaterOf.setCell ?_ (by first | exact Nat.le_refl _ | (simp; done) | omega | (simp; omega)) _))), HA.out⟩
      · rw [hx] at C hany
        rw [Bool.true_or] at hany
        have HA := Lib.hid hany
        clear hany hx
        go_wp2_with fail
        refine C.calls.mono ?_
        rintro e _ ⟨rfl, x1, rfl⟩
        go_wp2_with fail
        go_returns
        exact ⟨k, rfl, by rw [HA.out]; simp, by (repeat (first | (with_reducible exact LaterOf.refl _) | (with_reducible refine LaterOf.alloc ?_ _) | (with_reducible refine LaterOf.drew ?_) | (with_reducible refine LaterOf.drewN ?_ _) | (with_reducible refine LaterOf.later ?_ _) | (with_reducible refine LaterOf.setCell ?_ (by first | exact Nat.le_refl _ | (simp; done) | omega | (simp; omega)) _)))⟩
    · have hkl : k = l.length := by omega
      rw [hkl, List.drop_length] at hany
      have HA := Lib.hid hany
      clear hany
      go_wp2_with fail
      go_returns
      exact ⟨-1, rfl, by rw [HA.out]; rfl, by (repeat (first | (with_reducible exact LaterOf.refl _) | (with_reducible refine LaterOf.alloc ?_ _) | (with_reducible refine LaterOf.drew ?_) | (with_reducible refine LaterOf.drewN ?_ _) | (with_reducible refine LaterOf.later ?_ _) | (with_reducible refine LaterOf.setCell ?_ (by first | exact Nat.le_refl _ | (simp; done) | omega | (simp; omega)) _)))⟩
theorem containsClash_any (v1 v2 v3 : Value) (p : SlotR → Bool) (A : Option Addr) (c : Nat) (l : List SlotR) (w : World) (h : IsSlots w A c l) (hlen : l.length < 4611686018427387904) (hf : ∀ W, SinceOf w W → ∀ y ∈ l, Gives Try.prog 83 #[slotV y, v1, v2, v3] W (.bool (p y))) :
    Gives Try.prog 53 #[.slice A l.length c, .func (.func 83) #[] #[v1, v2, v3]] w (.bool (l.any p)) := by
  apply Gives.ret
  have H := Lib.hid (And.intro h hf)
  clear h hf
  go_enter Try.func53, Try.ntmps53
  go_wp2_with fail
  refine (indexClash_any v1 v2 v3 p A c l _ H.out.1 hlen H.out.2).mono ?_
  rintro e _ ⟨r, rfl, hr, ⟨z, rfl⟩⟩
  have HA := Lib.hid hr
  clear hr
  go_wp2_with fail
  go_returns
  exact ⟨by show Ending.returned (.bool (decide (0 ≤ r))) = _; rw [HA.out], by (repeat (first | (with_reducible exact LaterOf.refl _) | (with_reducible refine LaterOf.alloc ?_ _) | (with_reducible refine LaterOf.drew ?_) | (with_reducible refine LaterOf.drewN ?_ _) | (with_reducible refine LaterOf.later ?_ _) | (with_reducible refine LaterOf.setCell ?_ (by first | exact Nat.le_refl _ | (simp; done) | omega | (simp; omega)) _)))⟩
set_option maxRecDepth 100000 in
set_option maxHeartbeats 2000000 in
theorem indexAsked_any (v1 : Value) (p : SlotR → Bool) (A : Option Addr) (c : Nat) (l : List SlotR) (w : World) (h : IsSlots w A c l) (hlen : l.length < 4611686018427387904) (hf : ∀ W, SinceOf w W → ∀ y ∈ l, Gives Try.prog 54 #[slotV y, v1] W (.bool (p y))) :
    Calls Try.prog 70 #[.slice A l.length c, .func (.func 54) #[] #[v1]] w fun e w' => ∃ r : Int, e = .returned (.int .i64 r) ∧ decide (0 ≤ r) = l.any p ∧ LaterOf w w' := by
  have H := Lib.hid h
  clear h
  go_enter Try.func70, Try.ntmps70
  go_wp2_with fail
  go_loopg [8] l.length (fun gas s8 wr => ∃ k : Nat, k ≤ l.length ∧ l.length - k ≤ gas ∧ s8 = .int .i64 k ∧ LaterOf w wr ∧ l.any p = (l.drop k).any p)
  case atStart => exact ⟨0, by omega, by omega, rfl, by (repeat (first | (with_reducible exact LaterOf.refl _) | (with_reducible refine LaterOf.alloc ?_ _) | (with_reducible refine LaterOf.drew ?_) | (with_reducible refine LaterOf.drewN ?_ _) | (with_reducible refine LaterOf.later ?_ _) | (with_reducible refine LaterOf.setCell ?_ (by first | exact Nat.le_refl _ | (simp; done) | omega | (simp; omega)) _))), by rw [List.drop_zero]⟩
  case round =>
    obtain ⟨k, hk, hgas, rfl, ⟨z, rfl⟩, hany⟩ := hrel
    by_cases hlt : k < l.length
    · have hc := (H.out.of (LaterOf.since ⟨z, rfl⟩))
      have C := hf z.wd (LaterOf.since ⟨z, rfl⟩) _ (List.getElem_mem hlt)
      obtain ⟨g, off, rfl, hr⟩ := hc.at_ (by omega)
      have hO := hr.there
      have k0 := hr.s0 k hlt
      have k1 := hr.s1 k hlt
      have k2 := hr.s2 k hlt
      have k3 := hr.s3 k hlt
      rw [any_drop p hlt] at hany
      generalize l[k] = x at *
      clear hc hr
      cases hx : p x
      · rw [hx] at C hany
        rw [Bool.false_or] at hany
        have HA := Lib.hid hany
        clear hany hx
        go_wp2_with fail
        refine C.calls.mono ?_
        rintro e _ ⟨rfl, x1, rfl⟩
        go_wp2_with fail
        go_roundg (l.length - (k + 1))
        case measure => omega
        case rel => exact ⟨k + 1, hlt, Nat.le_refl _, by go_num, by (repeat (first | (with_reducible exact LaterOf.refl _) | (with_reducible refine LaterOf.alloc ?_ _) | (with_reducible refine LaterOf.drew ?_) | (with_reducible refine LaterOf.drewN ?_ _) | (with_reducible refine LaterOf.later ?_ _) | (with_reducible refine LaterOf.setCell ?_ (by first | exact Nat.le_refl _ | (simp; done) | omega | (simp; omega)) _))), HA.out⟩
      · rw [hx] at C hany
        rw [Bool.true_or] at hany
        have HA := Lib.hid hany
        clear hany hx
        go_wp2_with fail
        refine C.calls.mono ?_
        rintro e _ ⟨rfl, x1, rfl⟩
        go_wp2_with fail
        go_returns
        exact ⟨k, rfl, by rw [HA.out]; simp, by (repeat (first | (with_reducible exact LaterOf.refl _) | (with_reducible refine LaterOf.alloc ?_ _) | (with_reducible refine LaterOf.drew ?_) | (with_reducible refine LaterOf.drewN ?_ _) | (with_reducible refine LaterOf.later ?_ _) | (with_reducible refine LaterOf.setCell ?_ (by first | exact Nat.le_refl _ | (simp; done) | omega | (simp; omega)) _)))⟩
    · have hkl : k = l.length := by omega
      rw [hkl, List.drop_length] at hany
      have HA := Lib.hid hany
      clear hany
      go_wp2_with fail
      go_returns
      exact ⟨-1, rfl, by rw [HA.out]; rfl, by (repeat (first | (with_reducible exact LaterOf.refl _) | (with_reducible refine LaterOf.alloc ?_ _) | (with_reducible refine LaterOf.drew ?_) | (with_reducible refine LaterOf.drewN ?_ _) | (with_reducible refine LaterOf.later ?_ _) | (with_reducible refine LaterOf.setCell ?_ (by first | exact Nat.le_refl _ | (simp; done) | omega | (simp; omega)) _)))⟩
theorem containsAsked_any (v1 : Value) (p : SlotR → Bool) (A : Option Addr) (c : Nat) (l : List SlotR) (w : World) (h : IsSlots w A c l) (hlen : l.length < 4611686018427387904) (hf : ∀ W, SinceOf w W → ∀ y ∈ l, Gives Try.prog 54 #[slotV y, v1] W (.bool (p y))) :
    Gives Try.prog 53 #[.slice A l.length c, .func (.func 54) #[] #[v1]] w (.bool (l.any p)) := by
  apply Gives.ret
  have H := Lib.hid (And.intro h hf)
  clear h hf
  go_enter Try.func53, Try.ntmps53
  go_wp2_with fail
  refine (indexAsked_any v1 p A c l _ H.out.1 hlen H.out.2).mono ?_
  rintro e _ ⟨r, rfl, hr, ⟨z, rfl⟩⟩
  have HA := Lib.hid hr
  clear hr
  go_wp2_with fail
  go_returns
  exact ⟨by show Ending.returned (.bool (decide (0 ≤ r))) = _; rw [HA.out], by (repeat (first | (with_reducible exact LaterOf.refl _) | (with_reducible refine LaterOf.alloc ?_ _) | (with_reducible refine LaterOf.drew ?_) | (with_reducible refine LaterOf.drewN ?_ _) | (with_reducible refine LaterOf.later ?_ _) | (with_reducible refine LaterOf.setCell ?_ (by first | exact Nat.le_refl _ | (simp; done) | omega | (simp; omega)) _)))⟩

/-- A variable that holds a slot. -/
structure SlotAt (w : World) (g : Nat) (x : SlotR) : Prop where
  c0 : w.cell? ⟨g, 0, none⟩ = some (.int .i64 x.job)
  c1 : w.cell? ⟨g, 1, none⟩ = some (.int .i64 x.mach)
  c2 : w.cell? ⟨g, 2, none⟩ = some (.int .i64 x.start)
  c3 : w.cell? ⟨g, 3, none⟩ = some (.int .i64 x.stop)
  there : Nonempty (Old w g)
theorem SlotAt.of {w w' : World} {g : Nat} {s : SlotR} (h : SlotAt w g s) (hs : SinceOf w w') : SlotAt w' g s := by
  obtain ⟨z, rfl⟩ := hs
  have := h.there
  exact ⟨by rw [Since.cell]; exact h.c0, by rw [Since.cell]; exact h.c1, by rw [Since.cell]; exact h.c2, by rw [Since.cell]; exact h.c3, inferInstance⟩
theorem sameFn_any (x y : SlotR) (b : Nat) (w : World) (h : SlotAt w b x) : Gives Try.prog 81 #[slotV y, .pointer (some ⟨b, 0, none⟩)] w (.bool (y.job == x.job)) := by
  apply Gives.ret
  obtain ⟨c0, c1, c2, c3, hO⟩ := h
  go_enter Try.func81, Try.ntmps81
  go_wp2_with fail
  go_returns
  exact ⟨rfl, by (repeat (first | (with_reducible exact LaterOf.refl _) | (with_reducible refine LaterOf.alloc ?_ _) | (with_reducible refine LaterOf.drew ?_) | (with_reducible refine LaterOf.drewN ?_ _) | (with_reducible refine LaterOf.later ?_ _) | (with_reducible refine LaterOf.setCell ?_ (by first | exact Nat.le_refl _ | (simp; done) | omega | (simp; omega)) _)))⟩
theorem askedFn_any (j : Int) (y : SlotR) (b : Nat) (w : World) (h : w.cell? ⟨b, 0, none⟩ = some (.int .i64 j)) (hO : Nonempty (Old w b)) : Gives Try.prog 54 #[slotV y, .pointer (some ⟨b, 0, none⟩)] w (.bool (y.job == j)) := by
  apply Gives.ret
  go_enter Try.func54, Try.ntmps54
  go_wp2_with fail
  go_returns
  exact ⟨rfl, by (repeat (first | (with_reducible exact LaterOf.refl _) | (with_reducible refine LaterOf.alloc ?_ _) | (with_reducible refine LaterOf.drew ?_) | (with_reducible refine LaterOf.drewN ?_ _) | (with_reducible refine LaterOf.later ?_ _) | (with_reducible refine LaterOf.setCell ?_ (by first | exact Nat.le_refl _ | (simp; done) | omega | (simp; omega)) _)))⟩
def clashB (s : ShopR) (L : List JobR) (x y : SlotR) : Bool := (y.mach == x.mach) && (!followsB s L y x && !followsB s L x y)
set_option maxRecDepth 100000 in
set_option maxHeartbeats 1000000 in
theorem clashFn_any (s : ShopR) (A : Option Addr) (c : Nat) (L : List JobR) (x y : SlotR) (b1 b2 b3 : Nat) (w : World) (hs : IsShop w s) (h : IsJobs w A c L) (gp : GoodP s L) (hx : 0 ≤ x.job ∧ x.job < L.length) (hxm : 0 ≤ x.mach ∧ x.mach < s.cals.length) (hy : 0 ≤ y.job ∧ y.job < L.length)
    (g1 : SlotAt w b1 x) (g2 : ShopAt w b2 s) (g3 : w.cell? ⟨b3, 0, none⟩ = some (.slice A L.length c)) (hO3 : Nonempty (Old w b3)) :
    Gives Try.prog 83 #[slotV y, .pointer (some ⟨b1, 0, none⟩), .pointer (some ⟨b2, 0, none⟩), .pointer (some ⟨b3, 0, none⟩)] w (.bool (clashB s L x y)) := by
  apply Gives.ret
  have e : clashB s L x y = ((y.mach == x.mach) && (!followsB s L y x && !followsB s L x y)) := rfl
  rw [e]
  clear e
  by_cases hm : y.mach = x.mach
  · have F1 := fun W hW => follows_any s A c L y x W (hs.of hW) (h.of hW) gp (by rw [hm]; exact hxm) hy hx
    have F2 := fun W hW => follows_any s A c L x y W (hs.of hW) (h.of hW) gp hxm hx hy
    have t : (y.mach == x.mach) = true := by simpa using hm
    generalize followsB s L y x = q1 at *
    generalize followsB s L x y = q2 at *
    obtain ⟨c0, c1, c2, c3, hO1⟩ := g1
    obtain ⟨d0, d1, d2, hO2⟩ := g2
    clear hs h gp hm
    rw [t]
    cases q1
    · go_enter Try.func83, Try.ntmps83
      go_wp2_with fail
      refine (F1 _ (by (repeat (first | (with_reducible exact SinceOf.refl _) | (with_reducible assumption) | (with_reducible refine SinceOf.alloc ?_ _) | (with_reducible refine SinceOf.drew ?_) | (with_reducible refine SinceOf.drewN ?_ _) | (with_reducible refine SinceOf.later ?_ _) | (with_reducible refine SinceOf.further ?_ _) | (with_reducible refine SinceOf.setCell ?_ (by first | exact Nat.le_refl _ | (simp; done) | omega | (simp; omega)) _))))).calls.mono ?_
      rintro e _ ⟨rfl, x1, rfl⟩
      go_wp2_with fail
      refine (F2 _ (by (repeat (first | (with_reducible exact SinceOf.refl _) | (with_reducible assumption) | (with_reducible refine SinceOf.alloc ?_ _) | (with_reducible refine SinceOf.drew ?_) | (with_reducible refine SinceOf.drewN ?_ _) | (with_reducible refine SinceOf.later ?_ _) | (with_reducible refine SinceOf.further ?_ _) | (with_reducible refine SinceOf.setCell ?_ (by first | exact Nat.le_refl _ | (simp; done) | omega | (simp; omega)) _))))).calls.mono ?_
      rintro e _ ⟨rfl, x2, rfl⟩
      go_wp2_with fail
      go_returns
      exact ⟨by simp, by (repeat (first | (with_reducible exact LaterOf.refl _) | (with_reducible refine LaterOf.alloc ?_ _) | (with_reducible refine LaterOf.drew ?_) | (with_reducible refine LaterOf.drewN ?_ _) | (with_reducible refine LaterOf.later ?_ _) | (with_reducible refine LaterOf.setCell ?_ (by first | exact Nat.le_refl _ | (simp; done) | omega | (simp; omega)) _)))⟩
    · go_enter Try.func83, Try.ntmps83
      go_wp2_with fail
      refine (F1 _ (by (repeat (first | (with_reducible exact SinceOf.refl _) | (with_reducible assumption) | (with_reducible refine SinceOf.alloc ?_ _) | (with_reducible refine SinceOf.drew ?_) | (with_reducible refine SinceOf.drewN ?_ _) | (with_reducible refine SinceOf.later ?_ _) | (with_reducible refine SinceOf.further ?_ _) | (with_reducible refine SinceOf.setCell ?_ (by first | exact Nat.le_refl _ | (simp; done) | omega | (simp; omega)) _))))).calls.mono ?_
      rintro e _ ⟨rfl, x1, rfl⟩
      go_wp2_with fail
      go_returns
      exact ⟨by simp, by (repeat (first | (with_reducible exact LaterOf.refl _) | (with_reducible refine LaterOf.alloc ?_ _) | (with_reducible refine LaterOf.drew ?_) | (with_reducible refine LaterOf.drewN ?_ _) | (with_reducible refine LaterOf.later ?_ _) | (with_reducible refine LaterOf.setCell ?_ (by first | exact Nat.le_refl _ | (simp; done) | omega | (simp; omega)) _)))⟩
  · have t : (y.mach == x.mach) = false := by simpa using hm
    obtain ⟨c0, c1, c2, c3, hO1⟩ := g1
    clear hs h gp g2 g3 hm
    go_enter Try.func83, Try.ntmps83
    go_wp2_with fail
    go_returns
    exact ⟨by rw [t]; simp, by (repeat (first | (with_reducible exact LaterOf.refl _) | (with_reducible refine LaterOf.alloc ?_ _) | (with_reducible refine LaterOf.drew ?_) | (with_reducible refine LaterOf.drewN ?_ _) | (with_reducible refine LaterOf.later ?_ _) | (with_reducible refine LaterOf.setCell ?_ (by first | exact Nat.le_refl _ | (simp; done) | omega | (simp; omega)) _)))⟩
theorem containsInt_any (A : Option Addr) (c : Nat) (l : List Int) (x : Int) (w : World) (h : IsInts w A c l) (hlen : l.length < 4611686018427387904) : Gives Try.prog 44 #[.slice A l.length c, .int .i64 x] w (.bool (l.any (fun y => x == y))) := by
  apply Gives.ret
  have H := Lib.hid h
  clear h
  have K : Calls Try.prog 63 #[.slice A l.length c, .int .i64 x] w fun e w' => ∃ r : Int, e = .returned (.int .i64 r) ∧ decide (0 ≤ r) = l.any (fun y => x == y) ∧ LaterOf w w' := by
    go_enter Try.func63, Try.ntmps63
    go_wp2_with fail
    go_loopg [8] l.length (fun gas s8 wr => ∃ k : Nat, k ≤ l.length ∧ l.length - k ≤ gas ∧ s8 = .int .i64 k ∧ w = wr ∧ l.any (fun y => x == y) = (l.drop k).any (fun y => x == y))
    case atStart => exact ⟨0, by omega, by omega, rfl, rfl, by rw [List.drop_zero]⟩
    case round =>
      obtain ⟨k, hk, hgas, rfl, rfl, hany⟩ := hrel
      by_cases hlt : k < l.length
      · have hc := H.out
        obtain ⟨g, off, rfl, hr⟩ := hc.at_ (by omega)
        have hO := hr.there
        have k0 := hr.n0 k hlt
        rw [any_drop (fun y => x == y) hlt] at hany
        generalize l[k] = y at *
        clear hc hr
        cases hx : (x == y)
        · rw [hx, Bool.false_or] at hany
          have HA := Lib.hid hany
          clear hany
          go_wp2_with fail
          go_roundg (l.length - (k + 1))
          case measure => omega
          case rel => exact ⟨k + 1, hlt, Nat.le_refl _, by go_num, rfl, HA.out⟩
        · rw [hx, Bool.true_or] at hany
          have HA := Lib.hid hany
          clear hany
          go_wp2_with fail
          go_returns
          exact ⟨k, rfl, by rw [HA.out]; simp, by (repeat (first | (with_reducible exact LaterOf.refl _) | (with_reducible refine LaterOf.alloc ?_ _) | (with_reducible refine LaterOf.drew ?_) | (with_reducible refine LaterOf.drewN ?_ _) | (with_reducible refine LaterOf.later ?_ _) | (with_reducible refine LaterOf.setCell ?_ (by first | exact Nat.le_refl _ | (simp; done) | omega | (simp; omega)) _)))⟩
      · have hkl : k = l.length := by omega
        rw [hkl, List.drop_length] at hany
        have HA := Lib.hid hany
        clear hany
        go_wp2_with fail
        go_returns
        exact ⟨-1, rfl, by rw [HA.out]; rfl, by (repeat (first | (with_reducible exact LaterOf.refl _) | (with_reducible refine LaterOf.alloc ?_ _) | (with_reducible refine LaterOf.drew ?_) | (with_reducible refine LaterOf.drewN ?_ _) | (with_reducible refine LaterOf.later ?_ _) | (with_reducible refine LaterOf.setCell ?_ (by first | exact Nat.le_refl _ | (simp; done) | omega | (simp; omega)) _)))⟩
  go_enter Try.func44, Try.ntmps44
  go_wp2_with fail
  refine K.mono ?_
  rintro e _ ⟨r, rfl, hr, ⟨z, rfl⟩⟩
  have HA := Lib.hid hr
  clear hr
  go_wp2_with fail
  go_returns
  exact ⟨by show Ending.returned (.bool (decide (0 ≤ r))) = _; rw [HA.out], by (repeat (first | (with_reducible exact LaterOf.refl _) | (with_reducible refine LaterOf.alloc ?_ _) | (with_reducible refine LaterOf.drew ?_) | (with_reducible refine LaterOf.drewN ?_ _) | (with_reducible refine LaterOf.later ?_ _) | (with_reducible refine LaterOf.setCell ?_ (by first | exact Nat.le_refl _ | (simp; done) | omega | (simp; omega)) _)))⟩
end Go.Proofs.Ytdcncalcncomoaa
