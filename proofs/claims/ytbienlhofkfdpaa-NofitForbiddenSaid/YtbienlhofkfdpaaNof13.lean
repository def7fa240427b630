/- Layer 16: Slide, of the program and of the reference. -/
import Derived.Test.YtbienlhofkfdpaaNofP4
namespace Go.Proofs.Ytbienlhofkfdpaa
open Go.RowKit Go.Sort
set_option linter.unusedVariables false
set_option linter.unusedSimpArgs false
attribute [local go_sem ↓] Go.wp_at_zero Go.wp_at_succ

theorem within8000 {x y : Int} (h : withinB x y 8000 = true) : -8000 ≤ x ∧ x ≤ 8000 ∧ -8000 ≤ y ∧ y ≤ 8000 := by
  unfold withinB at h
  rw [show wneg 8000 = -8000 from by unfold wneg; decide +kernel] at h
  simp only [Bool.and_eq_true, decide_eq_true_eq] at h
  omega
theorem wadd_zero' {x : Int} (h1 : -8000 ≤ x) (h2 : x ≤ 8000) : wadd x 0 = x := by
  unfold wadd wrap64
  omega
set_option maxRecDepth 100000 in
set_option maxHeartbeats 8000000 in
theorem slide_any (A : Option Addr) (c : Nat) (X : List RgR) (vx vy dx dy most : Int) (w : World) (h : IsRings w A c X) (hs : ∀ x ∈ X, x.xs.length ≤ 100000) (hm : most ≤ 40) :
    Gives Try.prog 49 #[.slice A X.length c, vv vx vy, vv dx dy, .int .i64 most] w (.int .i64 (slideN (vxs X) dx dy most.toNat 0 vx vy)) := by
  apply Gives.ret
  have FB := fun W (hW : SinceOf w W) (x y : Int) => forbidden_any A c X x y W (h.of hW) hs
  obtain ⟨res, hres⟩ : ∃ res, res = slideN (vxs X) dx dy most.toNat 0 vx vy := ⟨_, rfl⟩
  rw [← hres]
  have HF := Lib.hid FB
  obtain ⟨N, hN⟩ : ∃ N, N = most.toNat := ⟨_, rfl⟩
  rw [← hN] at hres
  have HR := Lib.hid hres
  have HN := Lib.hid hN
  have hN40 : N ≤ 40 := by omega
  clear h hs FB hres hN
  go_enter Try.func49, Try.ntmps49
  go_wp2_with fail
  go_loopg [9] N (fun gas s9 wr => ∃ (k : Nat) (x y : Int), s9 = .int .i64 k ∧ k ≤ N ∧ N - k ≤ gas ∧ res = slideN (vxs X) dx dy (N - k) k x y ∧ VarV wr w.heap.size (x, y) ∧ VarV wr (w.heap.size + 1) (dx, dy) ∧ LaterOf w wr)
  case atStart => exact ⟨0, vx, vy, rfl, Nat.zero_le _, by omega, by rw [HR.out]; rfl, (VarV.new w vx vy 37).of (by (repeat (first | (with_reducible exact SinceOf.refl _) | (with_reducible assumption) | (with_reducible refine SinceOf.alloc ?_ _) | (with_reducible refine SinceOf.drew ?_) | (with_reducible refine SinceOf.drewN ?_ _) | (with_reducible refine SinceOf.later ?_ _) | (with_reducible refine SinceOf.further ?_ _) | (with_reducible refine SinceOf.setCell ?_ (by first | exact Nat.le_refl _ | (simp; done) | omega | (simp; omega)) _)))), by simpa using VarV.new (w.alloc (.cells #[.int .i64 vx, .int .i64 vy] 37)) dx dy 37, by (repeat (first | (with_reducible exact LaterOf.refl _) | (with_reducible refine LaterOf.alloc ?_ _) | (with_reducible refine LaterOf.drew ?_) | (with_reducible refine LaterOf.drewN ?_ _) | (with_reducible refine LaterOf.later ?_ _) | (with_reducible refine LaterOf.setCell ?_ (by first | exact Nat.le_refl _ | (simp; done) | omega | (simp; omega)) _)))⟩
  case round =>
    obtain ⟨k, x, y, rfl, hk, hgas, hsl, v0, v1, ⟨z, rfl⟩⟩ := hrel
    have c0 := v0.c0
    have c1 := v0.c1
    have d0 := v1.c0
    have d1 := v1.c1
    have f0 := v0.f0
    have f1 := v0.f1
    have o0 : Nonempty (Old z.wd w.heap.size) := ⟨⟨v0.lt⟩⟩
    have o1 : Nonempty (Old z.wd (w.heap.size + 1)) := ⟨⟨v1.lt⟩⟩
    simp only at c0 c1 d0 d1
    by_cases hlt : k < N
    · have g1 : decide ((k : Int) < most) = true := decide_eq_true (by have := HN.out; omega)
      have AD := add_any x y dx dy
      obtain ⟨nx, hnx⟩ : ∃ nx, nx = wadd x dx := ⟨_, rfl⟩
      obtain ⟨ny, hny⟩ : ∃ ny, ny = wadd y dy := ⟨_, rfl⟩
      rw [← hnx, ← hny] at AD
      have hsp : res = if withinB nx ny 8000 && !forbB (vxs X) (nx, ny) then slideN (vxs X) dx dy (N - (k + 1)) ((k : Int) + 1) nx ny else (k : Int) := by
        rw [hsl, show N - k = N - (k + 1) + 1 by omega, slideN, ← hnx, ← hny]
      have HV := Lib.hid (And.intro v0 (And.intro v1 (And.intro hnx hny)))
      have WI := within_any nx ny 8000
      have FO := fun W (hW : SinceOf w W) => HF.out W hW nx ny
      clear v0 v1 hsl hnx hny
      go_wp2_with fail
      refine (AD _).calls.mono ?_
      rintro e _ ⟨rfl, x1, rfl⟩
      have hx1 := x1.size
      have VN : VarV ((x1.wd.setCell ⟨w.heap.size, 0, none⟩ (.int .i64 nx)).setCell ⟨w.heap.size, 1, none⟩ (.int .i64 ny)) w.heap.size (nx, ny) := (HV.out.1.of (W' := x1.wd) (by (repeat (first | (with_reducible exact SinceOf.refl _) | (with_reducible assumption) | (with_reducible refine SinceOf.alloc ?_ _) | (with_reducible refine SinceOf.drew ?_) | (with_reducible refine SinceOf.drewN ?_ _) | (with_reducible refine SinceOf.later ?_ _) | (with_reducible refine SinceOf.further ?_ _) | (with_reducible refine SinceOf.setCell ?_ (by first | exact Nat.le_refl _ | (simp; done) | omega | (simp; omega)) _))))).put nx ny
      have VO : VarV ((x1.wd.setCell ⟨w.heap.size, 0, none⟩ (.int .i64 nx)).setCell ⟨w.heap.size, 1, none⟩ (.int .i64 ny)) (w.heap.size + 1) (dx, dy) := (HV.out.2.1.of (W' := x1.wd) (by (repeat (first | (with_reducible exact SinceOf.refl _) | (with_reducible assumption) | (with_reducible refine SinceOf.alloc ?_ _) | (with_reducible refine SinceOf.drew ?_) | (with_reducible refine SinceOf.drewN ?_ _) | (with_reducible refine SinceOf.later ?_ _) | (with_reducible refine SinceOf.further ?_ _) | (with_reducible refine SinceOf.setCell ?_ (by first | exact Nat.le_refl _ | (simp; done) | omega | (simp; omega)) _))))).other (by simp) _ _
      have HVN := Lib.hid (And.intro VN VO)
      clear VN VO
      have hAp : Nonempty (Apart (w.heap.size + 1) w.heap.size) := ⟨⟨by omega⟩⟩
      cases hb : withinB nx ny 8000
      · rw [hb] at WI hsp
        have hr : res = (k : Int) := by rw [hsp]; simp
        have HQ := Lib.hid hr
        clear hr hsp hb FO
        go_wp2_with fail
        refine (WI _).calls.mono ?_
        rintro e _ ⟨rfl, x2, rfl⟩
        go_wp2_with fail
        go_returns
        exact ⟨by rw [HQ.out]; rfl, by (repeat (first | (with_reducible exact LaterOf.refl _) | (with_reducible refine LaterOf.alloc ?_ _) | (with_reducible refine LaterOf.drew ?_) | (with_reducible refine LaterOf.drewN ?_ _) | (with_reducible refine LaterOf.later ?_ _) | (with_reducible refine LaterOf.setCell ?_ (by first | exact Nat.le_refl _ | (simp; done) | omega | (simp; omega)) _)))⟩
      · have hbd := within8000 hb
        rw [hb] at WI hsp
        have HB := Lib.hid hb
        clear hb
        cases hf : forbB (vxs X) (nx, ny)
        · rw [hf] at hsp
          have hr : res = slideN (vxs X) dx dy (N - (k + 1)) ((k : Int) + 1) nx ny := by rw [hsp]; simp
          have FO' := FO
          simp only [hf] at FO'
          have HF2 := Lib.hid hf
          have HQ := Lib.hid hr
          clear hsp hf hr FO
          by_cases h0 : dx = 0 ∧ dy = 0
          · obtain ⟨rfl, rfl⟩ := h0
            have e0 : eqv 0 0 0 0 = true := rfl
            have hr : res = most := by
              rw [HQ.out, slideN_rest (vxs X) nx ny _ _ HB.out HF2.out (by rw [wadd_zero' (by omega) (by omega)]) (by rw [wadd_zero' (by omega) (by omega)])]
              have := HN.out
              omega
            have HQ2 := Lib.hid hr
            clear hr
            go_wp2_with fail
            refine (WI _).calls.mono ?_
            rintro e _ ⟨rfl, x2, rfl⟩
            go_wp2_with fail
            refine (FO' _ (by (repeat (first | (with_reducible exact SinceOf.refl _) | (with_reducible assumption) | (with_reducible refine SinceOf.alloc ?_ _) | (with_reducible refine SinceOf.drew ?_) | (with_reducible refine SinceOf.drewN ?_ _) | (with_reducible refine SinceOf.later ?_ _) | (with_reducible refine SinceOf.further ?_ _) | (with_reducible refine SinceOf.setCell ?_ (by first | exact Nat.le_refl _ | (simp; done) | omega | (simp; omega)) _))))).calls.mono ?_
            rintro e _ ⟨rfl, x3, rfl⟩
            go_wp2_with fail
            go_returns
            exact ⟨by rw [HQ2.out]; rfl, by (repeat (first | (with_reducible exact LaterOf.refl _) | (with_reducible refine LaterOf.alloc ?_ _) | (with_reducible refine LaterOf.drew ?_) | (with_reducible refine LaterOf.drewN ?_ _) | (with_reducible refine LaterOf.later ?_ _) | (with_reducible refine LaterOf.setCell ?_ (by first | exact Nat.le_refl _ | (simp; done) | omega | (simp; omega)) _)))⟩
          · have e0 : eqv dx dy 0 0 = false := eqv_false h0
            clear h0
            go_wp2_with fail
            refine (WI _).calls.mono ?_
            rintro e _ ⟨rfl, x2, rfl⟩
            go_wp2_with fail
            refine (FO' _ (by (repeat (first | (with_reducible exact SinceOf.refl _) | (with_reducible assumption) | (with_reducible refine SinceOf.alloc ?_ _) | (with_reducible refine SinceOf.drew ?_) | (with_reducible refine SinceOf.drewN ?_ _) | (with_reducible refine SinceOf.later ?_ _) | (with_reducible refine SinceOf.further ?_ _) | (with_reducible refine SinceOf.setCell ?_ (by first | exact Nat.le_refl _ | (simp; done) | omega | (simp; omega)) _))))).calls.mono ?_
            rintro e _ ⟨rfl, x3, rfl⟩
            go_wp2_with fail
            go_roundg (N - (k + 1))
            case measure => omega
            case rel => exact ⟨k + 1, nx, ny, by go_num, hlt, Nat.le_refl _, by rw [HQ.out]; first | rfl | (congr 1; omega), HVN.out.1.of (by (repeat (first | (with_reducible exact SinceOf.refl _) | (with_reducible assumption) | (with_reducible refine SinceOf.alloc ?_ _) | (with_reducible refine SinceOf.drew ?_) | (with_reducible refine SinceOf.drewN ?_ _) | (with_reducible refine SinceOf.later ?_ _) | (with_reducible refine SinceOf.further ?_ _) | (with_reducible refine SinceOf.setCell ?_ (by first | exact Nat.le_refl _ | (simp; done) | omega | (simp; omega)) _)))), HVN.out.2.of (by (repeat (first | (with_reducible exact SinceOf.refl _) | (with_reducible assumption) | (with_reducible refine SinceOf.alloc ?_ _) | (with_reducible refine SinceOf.drew ?_) | (with_reducible refine SinceOf.drewN ?_ _) | (with_reducible refine SinceOf.later ?_ _) | (with_reducible refine SinceOf.further ?_ _) | (with_reducible refine SinceOf.setCell ?_ (by first | exact Nat.le_refl _ | (simp; done) | omega | (simp; omega)) _)))), by (repeat (first | (with_reducible exact LaterOf.refl _) | (with_reducible refine LaterOf.alloc ?_ _) | (with_reducible refine LaterOf.drew ?_) | (with_reducible refine LaterOf.drewN ?_ _) | (with_reducible refine LaterOf.later ?_ _) | (with_reducible refine LaterOf.setCell ?_ (by first | exact Nat.le_refl _ | (simp; done) | omega | (simp; omega)) _)))⟩
        · rw [hf] at hsp
          have hr : res = (k : Int) := by rw [hsp]; simp
          have FO' := FO
          simp only [hf] at FO'
          have HQ := Lib.hid hr
          clear hr hsp hf FO
          go_wp2_with fail
          refine (WI _).calls.mono ?_
          rintro e _ ⟨rfl, x2, rfl⟩
          go_wp2_with fail
          refine (FO' _ (by (repeat (first | (with_reducible exact SinceOf.refl _) | (with_reducible assumption) | (with_reducible refine SinceOf.alloc ?_ _) | (with_reducible refine SinceOf.drew ?_) | (with_reducible refine SinceOf.drewN ?_ _) | (with_reducible refine SinceOf.later ?_ _) | (with_reducible refine SinceOf.further ?_ _) | (with_reducible refine SinceOf.setCell ?_ (by first | exact Nat.le_refl _ | (simp; done) | omega | (simp; omega)) _))))).calls.mono ?_
          rintro e _ ⟨rfl, x3, rfl⟩
          go_wp2_with fail
          go_returns
          exact ⟨by rw [HQ.out]; rfl, by (repeat (first | (with_reducible exact LaterOf.refl _) | (with_reducible refine LaterOf.alloc ?_ _) | (with_reducible refine LaterOf.drew ?_) | (with_reducible refine LaterOf.drewN ?_ _) | (with_reducible refine LaterOf.later ?_ _) | (with_reducible refine LaterOf.setCell ?_ (by first | exact Nat.le_refl _ | (simp; done) | omega | (simp; omega)) _)))⟩
    · have hkN : k = N := by omega
      subst hkN
      have g1 : decide ((k : Int) < most) = false := decide_eq_false (by have := HN.out; omega)
      have hr : res = imax most 0 := by
        rw [hsl, Nat.sub_self, slideN, imax_eq]; have := HN.out; omega
      have HQ := Lib.hid hr
      clear hsl hr v0 v1
      go_wp2_with fail
      go_returns
      exact ⟨by rw [HQ.out]; first | rfl | simp, by (repeat (first | (with_reducible exact LaterOf.refl _) | (with_reducible refine LaterOf.alloc ?_ _) | (with_reducible refine LaterOf.drew ?_) | (with_reducible refine LaterOf.drewN ?_ _) | (with_reducible refine LaterOf.later ?_ _) | (with_reducible refine LaterOf.setCell ?_ (by first | exact Nat.le_refl _ | (simp; done) | omega | (simp; omega)) _)))⟩

set_option maxRecDepth 100000 in
set_option maxHeartbeats 8000000 in
theorem refSlide_any (A : Option Addr) (c : Nat) (X : List RgR) (vx vy dx dy most : Int) (w : World) (h : IsRings w A c X) (hs : ∀ x ∈ X, x.xs.length ≤ 100000) (hm : most ≤ 40) :
    Gives Try.prog 50 #[.slice A X.length c, vv vx vy, vv dx dy, .int .i64 most] w (.int .i64 (slideN (vxs X) dx dy most.toNat 0 vx vy)) := by
  apply Gives.ret
  have FB := fun W (hW : SinceOf w W) (x y : Int) => refForbidden_any A c X x y W (h.of hW) hs
  obtain ⟨res, hres⟩ : ∃ res, res = slideN (vxs X) dx dy most.toNat 0 vx vy := ⟨_, rfl⟩
  rw [← hres]
  have HF := Lib.hid FB
  obtain ⟨N, hN⟩ : ∃ N, N = most.toNat := ⟨_, rfl⟩
  rw [← hN] at hres
  have HR := Lib.hid hres
  have HN := Lib.hid hN
  have hN40 : N ≤ 40 := by omega
  clear h hs FB hres hN
  go_enter Try.func50, Try.ntmps50
  go_wp2_with fail
  go_loopg [9] N (fun gas s9 wr => ∃ (k : Nat) (x y : Int), s9 = .int .i64 k ∧ k ≤ N ∧ N - k ≤ gas ∧ res = slideN (vxs X) dx dy (N - k) k x y ∧ VarV wr w.heap.size (x, y) ∧ VarV wr (w.heap.size + 1) (dx, dy) ∧ LaterOf w wr)
  case atStart => exact ⟨0, vx, vy, rfl, Nat.zero_le _, by omega, by rw [HR.out]; rfl, (VarV.new w vx vy 37).of (by (repeat (first | (with_reducible exact SinceOf.refl _) | (with_reducible assumption) | (with_reducible refine SinceOf.alloc ?_ _) | (with_reducible refine SinceOf.drew ?_) | (with_reducible refine SinceOf.drewN ?_ _) | (with_reducible refine SinceOf.later ?_ _) | (with_reducible refine SinceOf.further ?_ _) | (with_reducible refine SinceOf.setCell ?_ (by first | exact Nat.le_refl _ | (simp; done) | omega | (simp; omega)) _)))), by simpa using VarV.new (w.alloc (.cells #[.int .i64 vx, .int .i64 vy] 37)) dx dy 37, by (repeat (first | (with_reducible exact LaterOf.refl _) | (with_reducible refine LaterOf.alloc ?_ _) | (with_reducible refine LaterOf.drew ?_) | (with_reducible refine LaterOf.drewN ?_ _) | (with_reducible refine LaterOf.later ?_ _) | (with_reducible refine LaterOf.setCell ?_ (by first | exact Nat.le_refl _ | (simp; done) | omega | (simp; omega)) _)))⟩
  case round =>
    obtain ⟨k, x, y, rfl, hk, hgas, hsl, v0, v1, ⟨z, rfl⟩⟩ := hrel
    have c0 := v0.c0
    have c1 := v0.c1
    have d0 := v1.c0
    have d1 := v1.c1
    have f0 := v0.f0
    have f1 := v0.f1
    have o0 : Nonempty (Old z.wd w.heap.size) := ⟨⟨v0.lt⟩⟩
    have o1 : Nonempty (Old z.wd (w.heap.size + 1)) := ⟨⟨v1.lt⟩⟩
    simp only at c0 c1 d0 d1
    by_cases hlt : k < N
    · have g1 : decide ((k : Int) < most) = true := decide_eq_true (by have := HN.out; omega)
      have AD := refAdd_any x y dx dy
      obtain ⟨nx, hnx⟩ : ∃ nx, nx = wadd x dx := ⟨_, rfl⟩
      obtain ⟨ny, hny⟩ : ∃ ny, ny = wadd y dy := ⟨_, rfl⟩
      rw [← hnx, ← hny] at AD
      have hsp : res = if withinB nx ny 8000 && !forbB (vxs X) (nx, ny) then slideN (vxs X) dx dy (N - (k + 1)) ((k : Int) + 1) nx ny else (k : Int) := by
        rw [hsl, show N - k = N - (k + 1) + 1 by omega, slideN, ← hnx, ← hny]
      have HV := Lib.hid (And.intro v0 (And.intro v1 (And.intro hnx hny)))
      have WI := refWithin_any nx ny 8000
      have FO := fun W (hW : SinceOf w W) => HF.out W hW nx ny
      clear v0 v1 hsl hnx hny
      go_wp2_with fail
      refine (AD _).calls.mono ?_
      rintro e _ ⟨rfl, x1, rfl⟩
      have hx1 := x1.size
      have VN : VarV ((x1.wd.setCell ⟨w.heap.size, 0, none⟩ (.int .i64 nx)).setCell ⟨w.heap.size, 1, none⟩ (.int .i64 ny)) w.heap.size (nx, ny) := (HV.out.1.of (W' := x1.wd) (by (repeat (first | (with_reducible exact SinceOf.refl _) | (with_reducible assumption) | (with_reducible refine SinceOf.alloc ?_ _) | (with_reducible refine SinceOf.drew ?_) | (with_reducible refine SinceOf.drewN ?_ _) | (with_reducible refine SinceOf.later ?_ _) | (with_reducible refine SinceOf.further ?_ _) | (with_reducible refine SinceOf.setCell ?_ (by first | exact Nat.le_refl _ | (simp; done) | omega | (simp; omega)) _))))).put nx ny
      have VO : VarV ((x1.wd.setCell ⟨w.heap.size, 0, none⟩ (.int .i64 nx)).setCell ⟨w.heap.size, 1, none⟩ (.int .i64 ny)) (w.heap.size + 1) (dx, dy) := (HV.out.2.1.of (W' := x1.wd) (by (repeat (first | (with_reducible exact SinceOf.refl _) | (with_reducible assumption) | (with_reducible refine SinceOf.alloc ?_ _) | (with_reducible refine SinceOf.drew ?_) | (with_reducible refine SinceOf.drewN ?_ _) | (with_reducible refine SinceOf.later ?_ _) | (with_reducible refine SinceOf.further ?_ _) | (with_reducible refine SinceOf.setCell ?_ (by first | exact Nat.le_refl _ | (simp; done) | omega | (simp; omega)) _))))).other (by simp) _ _
      have HVN := Lib.hid (And.intro VN VO)
      clear VN VO
      have hAp : Nonempty (Apart (w.heap.size + 1) w.heap.size) := ⟨⟨by omega⟩⟩
      cases hb : withinB nx ny 8000
      · rw [hb] at WI hsp
        have hr : res = (k : Int) := by rw [hsp]; simp
        have HQ := Lib.hid hr
        clear hr hsp hb FO
        go_wp2_with fail
        refine (WI _).calls.mono ?_
        rintro e _ ⟨rfl, x2, rfl⟩
        go_wp2_with fail
        go_returns
        exact ⟨by rw [HQ.out]; rfl, by (repeat (first | (with_reducible exact LaterOf.refl _) | (with_reducible refine LaterOf.alloc ?_ _) | (with_reducible refine LaterOf.drew ?_) | (with_reducible refine LaterOf.drewN ?_ _) | (with_reducible refine LaterOf.later ?_ _) | (with_reducible refine LaterOf.setCell ?_ (by first | exact Nat.le_refl _ | (simp; done) | omega | (simp; omega)) _)))⟩
      · have hbd := within8000 hb
        rw [hb] at WI hsp
        have HB := Lib.hid hb
        clear hb
        cases hf : forbB (vxs X) (nx, ny)
        · rw [hf] at hsp
          have hr : res = slideN (vxs X) dx dy (N - (k + 1)) ((k : Int) + 1) nx ny := by rw [hsp]; simp
          have FO' := FO
          simp only [hf] at FO'
          have HF2 := Lib.hid hf
          have HQ := Lib.hid hr
          clear hsp hf hr FO
          go_wp2_with fail
          refine (WI _).calls.mono ?_
          rintro e _ ⟨rfl, x2, rfl⟩
          go_wp2_with fail
          refine (FO' _ (by (repeat (first | (with_reducible exact SinceOf.refl _) | (with_reducible assumption) | (with_reducible refine SinceOf.alloc ?_ _) | (with_reducible refine SinceOf.drew ?_) | (with_reducible refine SinceOf.drewN ?_ _) | (with_reducible refine SinceOf.later ?_ _) | (with_reducible refine SinceOf.further ?_ _) | (with_reducible refine SinceOf.setCell ?_ (by first | exact Nat.le_refl _ | (simp; done) | omega | (simp; omega)) _))))).calls.mono ?_
          rintro e _ ⟨rfl, x3, rfl⟩
          go_wp2_with fail
          go_roundg (N - (k + 1))
          case measure => omega
          case rel => exact ⟨k + 1, nx, ny, by go_num, hlt, Nat.le_refl _, by rw [HQ.out]; first | rfl | (congr 1; omega), HVN.out.1.of (by (repeat (first | (with_reducible exact SinceOf.refl _) | (with_reducible assumption) | (with_reducible refine SinceOf.alloc ?_ _) | (with_reducible refine SinceOf.drew ?_) | (with_reducible refine SinceOf.drewN ?_ _) | (with_reducible refine SinceOf.later ?_ _) | (with_reducible refine SinceOf.further ?_ _) | (with_reducible refine SinceOf.setCell ?_ (by first | exact Nat.le_refl _ | (simp; done) | omega | (simp; omega)) _)))), HVN.out.2.of (by (repeat (first | (with_reducible exact SinceOf.refl _) | (with_reducible assumption) | (with_reducible refine SinceOf.alloc ?_ _) | (with_reducible refine SinceOf.drew ?_) | (with_reducible refine SinceOf.drewN ?_ _) | (with_reducible refine SinceOf.later ?_ _) | (with_reducible refine SinceOf.further ?_ _) | (with_reducible refine SinceOf.setCell ?_ (by first | exact Nat.le_refl _ | (simp; done) | omega | (simp; omega)) _)))), by (repeat (first | (with_reducible exact LaterOf.refl _) | (with_reducible refine LaterOf.alloc ?_ _) | (with_reducible refine LaterOf.drew ?_) | (with_reducible refine LaterOf.drewN ?_ _) | (with_reducible refine LaterOf.later ?_ _) | (with_reducible refine LaterOf.setCell ?_ (by first | exact Nat.le_refl _ | (simp; done) | omega | (simp; omega)) _)))⟩
        · rw [hf] at hsp
          have hr : res = (k : Int) := by rw [hsp]; simp
          have FO' := FO
          simp only [hf] at FO'
          have HQ := Lib.hid hr
          clear hr hsp hf FO
          go_wp2_with fail
          refine (WI _).calls.mono ?_
          rintro e _ ⟨rfl, x2, rfl⟩
          go_wp2_with fail
          refine (FO' _ (by (repeat (first | (with_reducible exact SinceOf.refl _) | (with_reducible assumption) | (with_reducible refine SinceOf.alloc ?_ _) | (with_reducible refine SinceOf.drew ?_) | (with_reducible refine SinceOf.drewN ?_ _) | (with_reducible refine SinceOf.later ?_ _) | (with_reducible refine SinceOf.further ?_ _) | (with_reducible refine SinceOf.setCell ?_ (by first | exact Nat.le_refl _ | (simp; done) | omega | (simp; omega)) _))))).calls.mono ?_
          rintro e _ ⟨rfl, x3, rfl⟩
          go_wp2_with fail
          go_returns
          exact ⟨by rw [HQ.out]; rfl, by (repeat (first | (with_reducible exact LaterOf.refl _) | (with_reducible refine LaterOf.alloc ?_ _) | (with_reducible refine LaterOf.drew ?_) | (with_reducible refine LaterOf.drewN ?_ _) | (with_reducible refine LaterOf.later ?_ _) | (with_reducible refine LaterOf.setCell ?_ (by first | exact Nat.le_refl _ | (simp; done) | omega | (simp; omega)) _)))⟩
    · have hkN : k = N := by omega
      subst hkN
      have g1 : decide ((k : Int) < most) = false := decide_eq_false (by have := HN.out; omega)
      have hr : res = imax most 0 := by
        rw [hsl, Nat.sub_self, slideN, imax_eq]; have := HN.out; omega
      have HQ := Lib.hid hr
      clear hsl hr v0 v1
      go_wp2_with fail
      go_returns
      exact ⟨by rw [HQ.out]; first | rfl | simp, by (repeat (first | (with_reducible exact LaterOf.refl _) | (with_reducible refine LaterOf.alloc ?_ _) | (with_reducible refine LaterOf.drew ?_) | (with_reducible refine LaterOf.drewN ?_ _) | (with_reducible refine LaterOf.later ?_ _) | (with_reducible refine LaterOf.setCell ?_ (by first | exact Nat.le_refl _ | (simp; done) | omega | (simp; omega)) _)))⟩
end Go.Proofs.Ytbienlhofkfdpaa
