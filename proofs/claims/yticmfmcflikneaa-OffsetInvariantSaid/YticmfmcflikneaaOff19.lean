/- Layer 18: symmetries of the reference; changed. -/
import Derived.Test.YticmfmcflikneaaOff12
import Derived.Test.YticmfmcflikneaaOffP6
namespace Go.Proofs.Yticmfmcflikneaa
open Go.RowKit Go.Sort
set_option linter.unusedVariables false
set_option linter.unusedSimpArgs false
attribute [local go_sem ↓] Go.wp_at_zero Go.wp_at_succ

def rotW (p : Pt) : Pt := (wneg p.2, p.1)
def rotN : Nat → Pt → Pt
  | 0, p => p
  | n + 1, p => rotW (rotN n p)
/-- The mapped vector. -/
def symW (t : Int) (p : Pt) : Pt := rotN (t.toNat % 4) (if 4 ≤ t then (wneg p.1, p.2) else p)
def movW (t : Int) (v p : Pt) : Pt := (wadd (symW t p).1 v.1, wadd (symW t p).2 v.2)
def pickL (t : Int) (r : List Pt) : List Pt := if 4 ≤ t then r.reverse else r
def chgR (t : Int) (v : Pt) (r : List Pt) : List Pt := (pickL t r).map (movW t v)
set_option maxRecDepth 100000 in
set_option maxHeartbeats 4000000 in
theorem refSym_any (t x y : Int) (ht0 : 0 ≤ t) (ht : t ≤ 7) (w : World) : Gives Try.prog 85 #[.int .i64 t, vv x y] w (vv (symW t (x, y)).1 (symW t (x, y)).2) := by
  apply Gives.ret
  have V : ∀ W, Gives Try.prog 99 #[.int .i64 t] W (.bool true) := fun W => by
    apply Gives.ret
    have g1 : decide (0 ≤ t) = true := decide_eq_true ht0
    have g2 : decide (t < 8) = true := decide_eq_true (by omega)
    go_enter Try.func99, Try.ntmps99
    go_wp2_with fail
    go_returns
    exact ⟨rfl, by (repeat (first | (with_reducible exact LaterOf.refl _) | (with_reducible refine LaterOf.alloc ?_ _) | (with_reducible refine LaterOf.drew ?_) | (with_reducible refine LaterOf.drewN ?_ _) | (with_reducible refine LaterOf.later ?_ _) | (with_reducible refine LaterOf.setCell ?_ (by first | exact Nat.le_refl _ | (simp; done) | omega | (simp; omega)) _)))⟩
  obtain ⟨q, hq⟩ : ∃ q : Pt, q = (if 4 ≤ t then (wneg x, y) else (x, y)) := ⟨_, rfl⟩
  have HQ := Lib.hid hq
  obtain ⟨m, hm⟩ : ∃ m : Nat, (m : Int) = t % 4 := ⟨(t % 4).toNat, by omega⟩
  have hm4 : m ≤ 3 := by omega
  have hS : symW t (x, y) = rotN m q := by
    unfold symW
    rw [hq]
    congr 1
    omega
  rw [hS]
  have e1 : t % 4 = m := hm.symm
  obtain ⟨b4, hb4⟩ : ∃ b4, decide (4 ≤ t) = b4 := ⟨_, rfl⟩
  clear hm hS hq
  go_enter Try.func85, Try.ntmps85
  go_wp2_with fail
  refine (V _).calls.mono ?_
  rintro e _ ⟨rfl, x1, rfl⟩
  clear V
  have hx1 := x1.size
  simp only [World.size_alloc] at hx1
  have V1 := Lib.hid ((VarV.new w x y 32).of (W' := x1.wd) (by (repeat (first | (with_reducible exact SinceOf.refl _) | (with_reducible assumption) | (with_reducible refine SinceOf.alloc ?_ _) | (with_reducible refine SinceOf.drew ?_) | (with_reducible refine SinceOf.drewN ?_ _) | (with_reducible refine SinceOf.later ?_ _) | (with_reducible refine SinceOf.further ?_ _) | (with_reducible refine SinceOf.setCell ?_ (by first | exact Nat.le_refl _ | (simp; done) | omega | (simp; omega)) _)))))
  have c0 : x1.wd.cell? ⟨w.heap.size, 0, none⟩ = some (.int .i64 x) := V1.out.c0
  have c1 : x1.wd.cell? ⟨w.heap.size, 1, none⟩ = some (.int .i64 y) := V1.out.c1
  have hU1 : Nonempty (Old x1.wd w.heap.size) := ⟨⟨by omega⟩⟩
  have V2 := Lib.hid ((VarV.new (w.alloc (.cells #[.int .i64 x, .int .i64 y] 32)) 0 0 32).of (W' := x1.wd) (by (repeat (first | (with_reducible exact SinceOf.refl _) | (with_reducible assumption) | (with_reducible refine SinceOf.alloc ?_ _) | (with_reducible refine SinceOf.drew ?_) | (with_reducible refine SinceOf.drewN ?_ _) | (with_reducible refine SinceOf.later ?_ _) | (with_reducible refine SinceOf.further ?_ _) | (with_reducible refine SinceOf.setCell ?_ (by first | exact Nat.le_refl _ | (simp; done) | omega | (simp; omega)) _)))))
  go_upto_if 11 with fail
  go_cut [] (fun wx => VarV wx w.heap.size q ∧ VarV wx (w.heap.size + 1) (0, 0) ∧ LaterOf w wx)
  case first =>
    cases b4
    · have hq : q = (x, y) := HQ.out.trans (if_neg (of_decide_eq_false hb4))
      clear hb4
      go_wp2_with fail
      go_meet
      rw [hq]
      exact ⟨V1.out, by simpa using V2.out, by (repeat (first | (with_reducible exact LaterOf.refl _) | (with_reducible refine LaterOf.alloc ?_ _) | (with_reducible refine LaterOf.drew ?_) | (with_reducible refine LaterOf.drewN ?_ _) | (with_reducible refine LaterOf.later ?_ _) | (with_reducible refine LaterOf.setCell ?_ (by first | exact Nat.le_refl _ | (simp; done) | omega | (simp; omega)) _)))⟩
    · have hq : q = (wneg x, y) := HQ.out.trans (if_pos (of_decide_eq_true hb4))
      have HQ2 := Lib.hid hq
      have f0 := V1.out.f0
      have f1 := V1.out.f1
      clear hb4 hq
      go_wp2_with fail
      go_meet
      rw [HQ2.out]
      exact ⟨V1.out.put _ _, by simpa using V2.out.other (k := w.heap.size) (by simp) _ _, by (repeat (first | (with_reducible exact LaterOf.refl _) | (with_reducible refine LaterOf.alloc ?_ _) | (with_reducible refine LaterOf.drew ?_) | (with_reducible refine LaterOf.drewN ?_ _) | (with_reducible refine LaterOf.later ?_ _) | (with_reducible refine LaterOf.setCell ?_ (by first | exact Nat.le_refl _ | (simp; done) | omega | (simp; omega)) _)))⟩
  case rest =>
    obtain ⟨v1, v2, ⟨z0, rfl⟩⟩ := hcut
    have HV := Lib.hid (And.intro v1 v2)
    clear v1 v2 c0 c1 hU1 V1 V2
    go_wp2_with fail
    go_loopg [5] m (fun gas s5 wr => ∃ i : Nat, i ≤ m ∧ m - i ≤ gas ∧ s5 = .int .i64 i ∧ VarV wr w.heap.size (rotN i q) ∧ VarV wr (w.heap.size + 1) (0, 0) ∧ LaterOf w wr)
    case atStart => exact ⟨0, by omega, by omega, rfl, HV.out.1, HV.out.2, by (repeat (first | (with_reducible exact LaterOf.refl _) | (with_reducible refine LaterOf.alloc ?_ _) | (with_reducible refine LaterOf.drew ?_) | (with_reducible refine LaterOf.drewN ?_ _) | (with_reducible refine LaterOf.later ?_ _) | (with_reducible refine LaterOf.setCell ?_ (by first | exact Nat.le_refl _ | (simp; done) | omega | (simp; omega)) _)))⟩
    case round =>
      obtain ⟨i, hi, hgas, rfl, v1, v2, ⟨z, rfl⟩⟩ := hrel
      have c0 := v1.c0
      have c1 := v1.c1
      have d0 := v2.c0
      have d1 := v2.c1
      have f0 := v1.f0
      have f1 := v1.f1
      have l1 := v1.lt
      have l2 := v2.lt
      have o1 : Nonempty (Old z.wd w.heap.size) := ⟨⟨l1⟩⟩
      have o2 : Nonempty (Old z.wd (w.heap.size + 1)) := ⟨⟨l2⟩⟩
      have HW := Lib.hid (And.intro v1 v2)
      clear v1 v2
      obtain ⟨a, ha⟩ : ∃ a, a = rotN i q := ⟨_, rfl⟩
      rw [← ha] at c0 c1 HW
      have HA := Lib.hid ha
      clear ha
      obtain ⟨ax, ay⟩ := a
      simp only at c0 c1 d0 d1
      by_cases hlt : i < m
      · go_wp2_with fail
        go_roundg (m - (i + 1))
        case measure => omega
        case rel =>
          refine ⟨i + 1, hlt, Nat.le_refl _, by go_num, ?_, HW.out.2.other (by simp) _ _, by (repeat (first | (with_reducible exact LaterOf.refl _) | (with_reducible refine LaterOf.alloc ?_ _) | (with_reducible refine LaterOf.drew ?_) | (with_reducible refine LaterOf.drewN ?_ _) | (with_reducible refine LaterOf.later ?_ _) | (with_reducible refine LaterOf.setCell ?_ (by first | exact Nat.le_refl _ | (simp; done) | omega | (simp; omega)) _)))⟩
          rw [show rotN (i + 1) q = (wneg ay, ax) by rw [show rotN (i + 1) q = rotW (rotN i q) from rfl, ← HA.out]; rfl]
          exact HW.out.1.put _ _
      · obtain rfl : i = m := by omega
        clear f0 f1
        have f0 := HW.out.2.f0
        have f1 := HW.out.2.f1
        go_wp2_with fail
        refine bodyPost_ret (by simp [results, Try.results85, go_sem, *]; try rfl) rfl ?_
        exact ⟨by rw [← HA.out], by (repeat (first | (with_reducible exact LaterOf.refl _) | (with_reducible refine LaterOf.alloc ?_ _) | (with_reducible refine LaterOf.drew ?_) | (with_reducible refine LaterOf.drewN ?_ _) | (with_reducible refine LaterOf.later ?_ _) | (with_reducible refine LaterOf.setCell ?_ (by first | exact Nat.le_refl _ | (simp; done) | omega | (simp; omega)) _)))⟩
end Go.Proofs.Yticmfmcflikneaa
/- Layer 18: changed; the walk of OffsetInvariant. -/
namespace Go.Proofs.Yticmfmcflikneaa
open Go.RowKit Go.Sort
set_option linter.unusedVariables false
set_option linter.unusedSimpArgs false
attribute [local go_sem ↓] Go.wp_at_zero Go.wp_at_succ

theorem pickL_len (t : Int) (r : List Pt) : (pickL t r).length = r.length := by
  unfold pickL
  split <;> simp
theorem pickL_at {t : Int} {r : List Pt} {k : Nat} (hk : k < r.length) : (pickL t r)[k]'(by rw [pickL_len]; exact hk) = if 4 ≤ t then r[r.length - 1 - k] else r[k] := by
  unfold pickL
  split
  · rw [List.getElem_reverse]
  · rfl
set_option maxRecDepth 100000 in
set_option maxHeartbeats 16000000 in
theorem changed_any (A : Option Addr) (c : Nat) (X : List RgR) (t vx vy : Int) (w : World) (h : IsRings w A c X) (hX : X.length ≤ 3) (hl : ∀ x ∈ X, 0 < x.xs.length ∧ x.xs.length ≤ 8) (ht0 : 0 ≤ t) (ht : t ≤ 7) :
    Calls Try.prog 53 #[.slice A X.length c, .int .i64 t, vv vx vy] w fun e w' => ∃ B d Y, e = .returned (.slice B X.length d) ∧ Y.length = X.length ∧ IsRings w' B d Y ∧ vxs Y = (vxs X).map (chgR t (vx, vy)) ∧ SinceOf w w' := by
  have H := Lib.hid h
  have HL := Lib.hid hl
  clear h hl
  obtain ⟨i0, hi, hz0, hz1, hz2⟩ := info_parts infoVec
  have HI := Lib.hid (And.intro hi (And.intro hz0 (And.intro hz1 hz2)))
  clear hi hz0 hz1 hz2
  obtain ⟨j0, hi, hz0, hz1, hz2⟩ := info_parts infoRing
  have HJ := Lib.hid (And.intro hi (And.intro hz0 (And.intro hz1 hz2)))
  clear hi hz0 hz1 hz2
  obtain ⟨b4, hb4⟩ : ∃ b4, decide (4 ≤ t) = b4 := ⟨_, rfl⟩
  go_enter Try.func53, Try.ntmps53
  go_wp2_with fail
  obtain ⟨W1, hW1⟩ : ∃ W1, W1 = w.alloc (.cells #[.int .i64 vx, .int .i64 vy] 32) := ⟨_, rfl⟩
  have hs1 : SinceOf w W1 := by rw [hW1]; (repeat (first | (with_reducible exact SinceOf.refl _) | (with_reducible assumption) | (with_reducible refine SinceOf.alloc ?_ _) | (with_reducible refine SinceOf.drew ?_) | (with_reducible refine SinceOf.drewN ?_ _) | (with_reducible refine SinceOf.later ?_ _) | (with_reducible refine SinceOf.further ?_ _) | (with_reducible refine SinceOf.setCell ?_ (by first | exact Nat.le_refl _ | (simp; done) | omega | (simp; omega)) _)))
  have hv1 : VarV W1 w.heap.size (vx, vy) := by rw [hW1]; exact VarV.new _ _ _ _
  rw [← hW1]
  have H1 := Lib.hid (And.intro hs1 hv1)
  clear hW1 hs1 hv1
  go_loopg [7, 8] X.length (fun gas s7 s8 wr => ∃ (i : Nat) (A2 : Option Addr) (c2 n2 : Nat) (Y : List RgR), i ≤ X.length ∧ X.length - i ≤ gas ∧ n2 = Y.length ∧ n2 = i ∧ s7 = .slice A2 n2 c2 ∧ s8 = .int .i64 i ∧ OwnRings W1.heap.size wr A2 c2 Y ∧ vxs Y = ((vxs X).take i).map (chgR t (vx, vy)) ∧ SinceOf W1 wr)
  case atStart => exact ⟨0, none, 0, 0, [], by omega, by omega, rfl, rfl, rfl, rfl, OwnRings.nil _ _, by simp [vxs], by (repeat (first | (with_reducible exact SinceOf.refl _) | (with_reducible assumption) | (with_reducible refine SinceOf.alloc ?_ _) | (with_reducible refine SinceOf.drew ?_) | (with_reducible refine SinceOf.drewN ?_ _) | (with_reducible refine SinceOf.later ?_ _) | (with_reducible refine SinceOf.further ?_ _) | (with_reducible refine SinceOf.setCell ?_ (by first | exact Nat.le_refl _ | (simp; done) | omega | (simp; omega)) _)))⟩
  case round =>
    obtain ⟨i, A2, c2, n2, Y, hi, hgas, hn2, hni, rfl, rfl, ho, hvy, ⟨z, rfl⟩⟩ := hrel
    have hzs := z.size
    by_cases hlt : i < X.length
    · have HY := Lib.hid (And.intro ho (And.intro hvy (And.intro hn2 hni)))
      have htk : (vxs X).take (i + 1) = (vxs X).take i ++ [X[i].xs] := by
        rw [List.take_succ_eq_append_getElem (by rw [vxs_len]; exact hlt)]
        simp [vxs]
      have hxl := HL.out _ (List.getElem_mem hlt)
      obtain ⟨x, hx⟩ : ∃ x, x = X[i] := ⟨_, rfl⟩
      rw [← hx] at htk hxl
      have HX := Lib.hid (And.intro hx htk)
      have hxl0 := hxl.1
      have hxl8 := hxl.2
      have hn3 : n2 ≤ 3 := by omega
      clear ho hvy hn2 hni htk hx hxl
      go_wp2_with fail
      go_loopg [9, 10] x.xs.length (fun gas s9 s10 wr => ∃ (k : Nat) (A3 : Option Addr) (c3 : Nat), k ≤ x.xs.length ∧ x.xs.length - k ≤ gas ∧ s9 = .slice A3 k c3 ∧ s10 = .int .i64 k ∧ OwnVecs z.wd.heap.size wr A3 c3 (((pickL t x.xs).take k).map (movW t (vx, vy))) ∧ SinceOf z.wd wr)
      case atStart => exact ⟨0, none, 0, by omega, by omega, rfl, rfl, by rw [List.take_zero]; exact Owns.nil _ _ _ _ _, by (repeat (first | (with_reducible exact SinceOf.refl _) | (with_reducible assumption) | (with_reducible refine SinceOf.alloc ?_ _) | (with_reducible refine SinceOf.drew ?_) | (with_reducible refine SinceOf.drewN ?_ _) | (with_reducible refine SinceOf.later ?_ _) | (with_reducible refine SinceOf.further ?_ _) | (with_reducible refine SinceOf.setCell ?_ (by first | exact Nat.le_refl _ | (simp; done) | omega | (simp; omega)) _)))⟩
      case round =>
        obtain ⟨k, A3, c3, hk, hgas2, rfl, rfl, ho3, ⟨u, rfl⟩⟩ := hrel
        have hus := u.size
        have hX1 := H.out.of (w' := u.wd) (H1.out.1.trans (by (repeat (first | (with_reducible exact SinceOf.refl _) | (with_reducible assumption) | (with_reducible refine SinceOf.alloc ?_ _) | (with_reducible refine SinceOf.drew ?_) | (with_reducible refine SinceOf.drewN ?_ _) | (with_reducible refine SinceOf.later ?_ _) | (with_reducible refine SinceOf.further ?_ _) | (with_reducible refine SinceOf.setCell ?_ (by first | exact Nat.le_refl _ | (simp; done) | omega | (simp; omega)) _)))))
        have vxr := (hX1.all _ (List.getElem_mem hlt)).1
        obtain ⟨g, off, rfl, hr⟩ := hX1.row.at_ (by omega)
        have hO := hr.there
        have k0 := hr.g0 i hlt
        rw [← HX.out.1] at k0 vxr
        clear hX1 hr
        by_cases hlt2 : k < x.xs.length
        · obtain ⟨g3, off3, hA3, hr3⟩ := vxr.at_ (by omega)
          have hO3 := hr3.there
          have p0 := hr3.v0 k hlt2
          have p1 := hr3.v1 k hlt2
          have hkr : x.xs.length - 1 - k < x.xs.length := by omega
          have q0 := hr3.v0 _ hkr
          have q1 := hr3.v1 _ hkr
          rw [hA3] at k0
          have HA3 := Lib.hid hA3
          clear hA3 hr3 vxr
          have htk2 : ((pickL t x.xs).take (k + 1)).map (movW t (vx, vy)) = ((pickL t x.xs).take k).map (movW t (vx, vy)) ++ [movW t (vx, vy) (if 4 ≤ t then x.xs[x.xs.length - 1 - k] else x.xs[k])] := by
            rw [List.take_succ_eq_append_getElem (by rw [pickL_len]; exact hlt2), List.map_append, pickL_at hlt2]; rfl
          have hll : (((pickL t x.xs).take k).map (movW t (vx, vy))).length = k := by
            rw [List.length_map, List.length_take, pickL_len]; omega
          obtain ⟨L, hL⟩ : ∃ L, L = ((pickL t x.xs).take k).map (movW t (vx, vy)) := ⟨_, rfl⟩
          rw [← hL] at htk2 hll ho3
          obtain ⟨q, hq⟩ : ∃ q : Pt, q = (if 4 ≤ t then x.xs[x.xs.length - 1 - k] else x.xs[k]) := ⟨_, rfl⟩
          rw [← hq] at htk2
          have HP := Lib.hid (And.intro ho3 (And.intro htk2 (And.intro hll hq)))
          clear ho3 htk2 hll hL hq
          obtain ⟨pa, hpa⟩ : ∃ pa, pa = x.xs[k] := ⟨_, rfl⟩
          obtain ⟨pb, hpb⟩ : ∃ pb, pb = x.xs[x.xs.length - 1 - k] := ⟨_, rfl⟩
          rw [← hpa] at p0 p1
          rw [← hpb] at q0 q1
          have HPP := Lib.hid (And.intro hpa hpb)
          clear hpa hpb
          obtain ⟨xa, ya⟩ := pa
          obtain ⟨xb, yb⟩ := pb
          simp only at p0 p1 q0 q1
          have hi1 : IntKind.i64.wrap ((x.xs.length : Int) - 1) = (x.xs.length : Int) - 1 := IntWalk.i64_in _ (by omega)
          have hi2 : (x.xs.length : Int) - 1 - (k : Int) = ((x.xs.length - 1 - k : Nat) : Int) := by omega
          have hi3 : IntKind.i64.wrap ((x.xs.length : Int) - 1 - (k : Int)) = ((x.xs.length - 1 - k : Nat) : Int) := by rw [← hi2]; exact IntWalk.i64_in _ (by omega)
          obtain ⟨kr, hkrd⟩ : ∃ kr, kr = x.xs.length - 1 - k := ⟨_, rfl⟩
          rw [← hkrd] at q0 q1 hkr hi2 hi3
          have HKR := Lib.hid hkrd
          clear hkrd
          go_upto_if 35 with fail
          go_cut [11] (fun s11 wx => ∃ b7 : Nat, s11 = .pointer (some ⟨b7, 0, none⟩) ∧ VarV wx b7 q ∧ SinceOf u.wd wx)
          case first =>
            cases b4
            · have hq : q = (xa, ya) := by rw [HP.out.2.2.2, if_neg (of_decide_eq_false hb4)]; exact HPP.out.1.symm
              have HQ := Lib.hid hq
              clear hq
              go_wp2_with fail
              go_meet
              rw [HQ.out]
              exact ⟨_, rfl, VarV.new _ _ _ _, by (repeat (first | (with_reducible exact SinceOf.refl _) | (with_reducible assumption) | (with_reducible refine SinceOf.alloc ?_ _) | (with_reducible refine SinceOf.drew ?_) | (with_reducible refine SinceOf.drewN ?_ _) | (with_reducible refine SinceOf.later ?_ _) | (with_reducible refine SinceOf.further ?_ _) | (with_reducible refine SinceOf.setCell ?_ (by first | exact Nat.le_refl _ | (simp; done) | omega | (simp; omega)) _)))⟩
            · have hq : q = (xb, yb) := by rw [HP.out.2.2.2, if_pos (of_decide_eq_true hb4)]; exact HPP.out.2.symm
              have HQ := Lib.hid hq
              clear hq
              go_wp2_with fail
              go_big_region
              go_wp2_with fail
              go_meet
              rw [HQ.out]
              refine ⟨_, rfl, ⟨by simp [go_sem], by simp [go_sem], by simp [go_sem], by simp [go_sem], by simp [go_sem]⟩, by (repeat (first | (with_reducible exact SinceOf.refl _) | (with_reducible assumption) | (with_reducible refine SinceOf.alloc ?_ _) | (with_reducible refine SinceOf.drew ?_) | (with_reducible refine SinceOf.drewN ?_ _) | (with_reducible refine SinceOf.later ?_ _) | (with_reducible refine SinceOf.further ?_ _) | (with_reducible refine SinceOf.setCell ?_ (by first | exact Nat.le_refl _ | (simp; done) | omega | (simp; omega)) _)))⟩
          case rest =>
            obtain ⟨b7, rfl, v7, ⟨z7, rfl⟩⟩ := hcut
            have hz7 := z7.size
            obtain ⟨qx, qy⟩ := q
            have d0 := v7.c0
            have d1 := v7.c1
            have o7 : Nonempty (Old z7.wd b7) := ⟨⟨v7.lt⟩⟩
            have v1 : VarV z7.wd w.heap.size (vx, vy) := H1.out.2.of ((SinceOf.trans ⟨z, rfl⟩ ⟨u, rfl⟩).trans ⟨z7, rfl⟩)
            have e0 := v1.c0
            have e1 := v1.c1
            have o1 : Nonempty (Old z7.wd w.heap.size) := ⟨⟨v1.lt⟩⟩
            simp only at d0 d1 e0 e1
            have SY := refSym_any t qx qy ht0 ht
            have AD := refAdd_any (symW t (qx, qy)).1 (symW t (qx, qy)).2 vx vy
            have hmv : movW t (vx, vy) (qx, qy) = (wadd (symW t (qx, qy)).1 vx, wadd (symW t (qx, qy)).2 vy) := rfl
            have HMV := Lib.hid hmv
            generalize wadd (symW t (qx, qy)).1 vx = mx at *
            generalize wadd (symW t (qx, qy)).2 vy = my at *
            generalize (symW t (qx, qy)).1 = sx at *
            generalize (symW t (qx, qy)).2 = sy at *
            clear v7 v1 hmv hi1 hi2 hi3 q0 q1 p0 p1 k0 hkr HKR hb4
            have hk8 : k ≤ 8 := by omega
            go_wp2_with fail
            go_region_law
              (first
                | (go_simp; go_at_call 85; refine (SY _).calls.mono ?_; rintro e _ ⟨rfl, z1, rfl⟩; (try dsimp only))
                | (go_simp; go_at_call 27; refine (AD _).calls.mono ?_; rintro e _ ⟨rfl, z2, rfl⟩; (try dsimp only))
                | (refine step_append_row (by rfl) (.tmp 50) (.tmp 56) 25 (by rfl) encV_len (by omega) encV_one i0 _ 16 Try.underlying25 HI.out.1 HI.out.2.1 HI.out.2.2.1 HI.out.2.2.2 rfl (l := L) (A := A3) (c := c3) (base := z.wd.heap.size) (by rw [HP.out.2.2.1]; rfl) (HP.out.1.of (by (repeat (first | (with_reducible exact SinceOf.refl _) | (with_reducible assumption) | (with_reducible refine SinceOf.alloc ?_ _) | (with_reducible refine SinceOf.drew ?_) | (with_reducible refine SinceOf.drewN ?_ _) | (with_reducible refine SinceOf.later ?_ _) | (with_reducible refine SinceOf.further ?_ _) | (with_reducible refine SinceOf.setCell ?_ (by first | exact Nat.le_refl _ | (simp; done) | omega | (simp; omega)) _))))) (m := [(mx, my)]) (by rfl) (isRow_atV _ _ _ _ (by first | rfl | simp)) (by rw [HP.out.2.2.1]; unfold maxLen; simp; omega) (by rw [HP.out.2.2.1]; simp; omega) (by have := z1.size; have := z2.size; simp at *; omega) ?_; intro A4 c4 w4 ho4 hgr4 hb4))
            all_goals
              go_wp2_with fail
              go_roundg (x.xs.length - (k + 1))
              case measure => omega
              case rel =>
                refine ⟨k + 1, A4, c4, hlt2, Nat.le_refl _, (by rw [HP.out.2.2.1]; try rfl), by go_num, ?_, SinceOf.grown (by (repeat (first | (with_reducible exact SinceOf.refl _) | (with_reducible assumption) | (with_reducible refine SinceOf.alloc ?_ _) | (with_reducible refine SinceOf.drew ?_) | (with_reducible refine SinceOf.drewN ?_ _) | (with_reducible refine SinceOf.later ?_ _) | (with_reducible refine SinceOf.further ?_ _) | (with_reducible refine SinceOf.setCell ?_ (by first | exact Nat.le_refl _ | (simp; done) | omega | (simp; omega)) _)))) hgr4 (fun q hq => (HP.out.1.below q hq).1)⟩
                rw [HP.out.2.1, HMV.out]
                exact ho4
        · obtain rfl : k = x.xs.length := by omega
          have hrow := show OwnVecs z.wd.heap.size u.wd A3 c3 (chgR t (vx, vy) x.xs) by
            rw [List.take_of_length_le (by rw [pickL_len]; exact Nat.le_refl _)] at ho3
            exact ho3
          have hcl : (chgR t (vx, vy) x.xs).length = x.xs.length := by unfold chgR; rw [List.length_map, pickL_len]
          have HR := Lib.hid (And.intro hrow hcl)
          clear ho3 hrow hcl vxr hb4
          obtain ⟨m, hm⟩ : ∃ m, m = chgR t (vx, vy) x.xs := ⟨_, rfl⟩
          rw [← hm] at HR
          have HM := Lib.hid hm
          clear hm
          have hYl := HY.out.2.2.1
          have HYL := Lib.hid hYl
          clear hYl
          have hml := HR.out.2
          rw [← hml] at k0 ⊢
          have HML := Lib.hid hml
          clear hml
          go_wp2_with (at_builtin; refine wpList_append_row rfl (.tmp 58) (.tmp 60) 52 rfl encG_len (by omega) encG_one j0 _ 24 Try.underlying52 HJ.out.1 HJ.out.2.1 HJ.out.2.2.1 HJ.out.2.2.2 rfl (l := Y) (A := A2) (c := c2) (base := W1.heap.size) (by rw [← HYL.out]; kernel_rfl) (HY.out.1.own.of (by (repeat (first | (with_reducible exact SinceOf.refl _) | (with_reducible assumption) | (with_reducible refine SinceOf.alloc ?_ _) | (with_reducible refine SinceOf.drew ?_) | (with_reducible refine SinceOf.drewN ?_ _) | (with_reducible refine SinceOf.later ?_ _) | (with_reducible refine SinceOf.further ?_ _) | (with_reducible refine SinceOf.setCell ?_ (by first | exact Nat.le_refl _ | (simp; done) | omega | (simp; omega)) _))))) (m := [⟨A3, c3, m⟩]) rfl (isRow_atG _ _ ⟨A3, c3, m⟩ (by first | rfl | simp)) (by rw [← HYL.out]; unfold maxLen; simp; omega) (by rw [← HYL.out]; simp; omega) (by have := u.size; simp; omega) ?_; intro A7 c7 w7 ho7 hgr7 hb7)
          go_roundg (X.length - (i + 1))
          case measure => omega
          case rel =>
            have hs7 : SinceOf W1 w7 := SinceOf.grown (by (repeat (first | (with_reducible exact SinceOf.refl _) | (with_reducible assumption) | (with_reducible refine SinceOf.alloc ?_ _) | (with_reducible refine SinceOf.drew ?_) | (with_reducible refine SinceOf.drewN ?_ _) | (with_reducible refine SinceOf.later ?_ _) | (with_reducible refine SinceOf.further ?_ _) | (with_reducible refine SinceOf.setCell ?_ (by first | exact Nat.le_refl _ | (simp; done) | omega | (simp; omega)) _)))) hgr7 (fun q hq => (HY.out.1.own.below q hq).1)
            refine ⟨i + 1, A7, c7, n2 + 1, Y ++ [⟨A3, c3, m⟩], hlt, Nat.le_refl _, (by rw [List.length_append, ← HYL.out]; try rfl), by rw [HY.out.2.2.2], (by rw [← HYL.out]; try rfl), by go_num, ?_, ?_, hs7⟩
            · refine (HY.out.1.of (w' := u.wd.alloc (.cells #[.slice A3 m.length c3] 25)) (by (repeat (first | (with_reducible exact SinceOf.refl _) | (with_reducible assumption) | (with_reducible refine SinceOf.alloc ?_ _) | (with_reducible refine SinceOf.drew ?_) | (with_reducible refine SinceOf.drewN ?_ _) | (with_reducible refine SinceOf.later ?_ _) | (with_reducible refine SinceOf.further ?_ _) | (with_reducible refine SinceOf.setCell ?_ (by first | exact Nat.le_refl _ | (simp; done) | omega | (simp; omega)) _))))).push (x := ⟨A3, c3, m⟩) ((HR.out.1.isRow encV_len).of (by (repeat (first | (with_reducible exact SinceOf.refl _) | (with_reducible assumption) | (with_reducible refine SinceOf.alloc ?_ _) | (with_reducible refine SinceOf.drew ?_) | (with_reducible refine SinceOf.drewN ?_ _) | (with_reducible refine SinceOf.later ?_ _) | (with_reducible refine SinceOf.further ?_ _) | (with_reducible refine SinceOf.setCell ?_ (by first | exact Nat.le_refl _ | (simp; done) | omega | (simp; omega)) _))))) (by simp only; rw [HML.out]; omega) (by simp only; rw [HML.out]; omega) (fun b hb e => ?_) ho7 hgr7 hb7
              have h1 := (HR.out.1.below b hb).1
              have h2 := (HY.out.1.own.below b e).2
              omega
            · rw [HX.out.2, List.map_append, ← HY.out.2.1]
              simp [vxs, HM.out]
    · obtain rfl : i = X.length := by omega
      rw [List.take_of_length_le (by rw [vxs_len]; exact Nat.le_refl _)] at hvy
      have HP := Lib.hid (And.intro ho (And.intro hvy hn2))
      clear ho hvy hn2 hb4
      subst hni
      go_wp2_with fail
      go_returns
      have hl := HP.out.2.2
      exact ⟨A2, c2, Y, rfl, hl.symm, HP.out.1.rings (by omega), HP.out.2.1, H1.out.1.trans (by (repeat (first | (with_reducible exact SinceOf.refl _) | (with_reducible assumption) | (with_reducible refine SinceOf.alloc ?_ _) | (with_reducible refine SinceOf.drew ?_) | (with_reducible refine SinceOf.drewN ?_ _) | (with_reducible refine SinceOf.later ?_ _) | (with_reducible refine SinceOf.further ?_ _) | (with_reducible refine SinceOf.setCell ?_ (by first | exact Nat.le_refl _ | (simp; done) | omega | (simp; omega)) _))))⟩
end Go.Proofs.Yticmfmcflikneaa
/- Layer 18: the walk of OffsetInvariant. -/
namespace Go.Proofs.Yticmfmcflikneaa
open Go.RowKit Go.Sort
set_option linter.unusedVariables false
set_option linter.unusedSimpArgs false
attribute [local go_sem ↓] Go.wp_at_zero Go.wp_at_succ

theorem tmod_bd (x : Int) : -2000 ≤ Int.tmod x 2001 ∧ Int.tmod x 2001 ≤ 2000 := by
  rcases Int.le_total 0 x with h | h
  · rw [Int.tmod_eq_emod_of_nonneg h]; omega
  · have e : Int.tmod x 2001 = -(Int.tmod (-x) 2001) := by rw [Int.neg_tmod, Int.neg_neg]
    rw [e, Int.tmod_eq_emod_of_nonneg (by omega)]; omega
theorem bits7 (x : Int) : 0 ≤ bits .and .i64 x 7 ∧ bits .and .i64 x 7 ≤ 7 := by
  have h : (BitVec.ofInt 64 x &&& BitVec.ofInt 64 7).toNat ≤ 7 := by
    rw [BitVec.toNat_and]
    exact Nat.le_trans Nat.and_le_right (by decide)
  have e : bits .and .i64 x 7 = IntKind.i64.wrap ((BitVec.ofInt 64 x &&& BitVec.ofInt 64 7).toNat : Int) := rfl
  rw [e, IntWalk.i64_in _ (by omega)]
  omega
theorem bits63 (x : Int) : 0 ≤ bits .and .i16 x 63 ∧ bits .and .i16 x 63 ≤ 63 := by
  have h : (BitVec.ofInt 16 x &&& BitVec.ofInt 16 63).toNat ≤ 63 := by
    rw [BitVec.toNat_and]
    exact Nat.le_trans Nat.and_le_right (by decide)
  have e : bits .and .i16 x 63 = IntKind.i16.wrap ((BitVec.ofInt 16 x &&& BitVec.ofInt 16 63).toNat : Int) := rfl
  have e2 : ∀ n : Nat, n ≤ 63 → IntKind.i16.wrap (n : Int) = n := by decide
  rw [e, e2 _ h]
  omega
theorem rotN_eq : ∀ (n : Nat) {p : Pt}, near 2000 p → rotN n p = rotPN n p
  | 0, _, _ => rfl
  | n + 1, p, h => by
    have := rotPN_near n h
    unfold rotN rotPN
    rw [rotN_eq n h]
    unfold rotW rotP
    unfold near at this
    rw [wneg_in (by omega)]
theorem symW_eq {t : Int} {p : Pt} (h : near 2000 p) : symW t p = symP t p := by
  unfold symW symP
  have h2 := h
  unfold near at h2
  by_cases q : 4 ≤ t
  · rw [if_pos q, if_pos q, wneg_in (by omega)]
    exact rotN_eq _ (by unfold near; simp only; omega)
  · rw [if_neg q, if_neg q]
    exact rotN_eq _ h
theorem chgR_eq {t : Int} {v : Pt} {r : List Pt} (hr : ∀ p ∈ r, near 2000 p) (hv : near 2000 v) : chgR t v r = chgP t v r := by
  unfold chgR chgP pickL
  refine List.map_congr_left fun p hp => ?_
  have hp' : near 2000 p := hr p (by split at hp <;> simpa using hp)
  have h2 := symP_near (t := t) hp'
  unfold movW tr
  rw [symW_eq hp']
  unfold near at h2 hv
  rw [wadd_in (by omega), wadd_in (by omega)]
set_option maxRecDepth 100000 in
set_option maxHeartbeats 8000000 in
theorem offsetInvariant_any (A B : Option Addr) (c d : Nat) (X Z : List RgR) (x0 x1 x2 x3 : Int) (w : World) (h : IsRings w A c X) (hz : IsRings w B d Z) (h0 : -32768 ≤ x0 ∧ x0 ≤ 32767) (h1 : -32768 ≤ x1 ∧ x1 ≤ 32767) (h2 : -32768 ≤ x2 ∧ x2 ≤ 32767) (h3 : -32768 ≤ x3 ∧ x3 ≤ 32767) :
    Yields Try.prog 15 #[.slice A X.length c, .slice B Z.length d, .agg #[.int .i16 x0, .int .i16 x1, .int .i16 x2, .int .i16 x3]] w (.bool true) := by
  apply Yields.ret
  have H := Lib.hid (And.intro h hz)
  clear h hz
  have M1 := fun W (hW : SinceOf w W) => modest_any A c X W (H.out.1.of hW)
  have M2 := fun W (hW : SinceOf w W) => modest_any B d Z W (H.out.2.of hW)
  obtain ⟨t, ht⟩ : ∃ t, bits .and .i64 x0 7 = t := ⟨_, rfl⟩
  obtain ⟨n, hn⟩ : ∃ n, bits .and .i16 x3 63 = n := ⟨_, rfl⟩
  obtain ⟨vx, hvx⟩ : ∃ vx, Int.tmod x1 2001 = vx := ⟨_, rfl⟩
  obtain ⟨vy, hvy⟩ : ∃ vy, Int.tmod x2 2001 = vy := ⟨_, rfl⟩
  have ht0 : 0 ≤ t := by have := bits7 x0; omega
  have ht7 : t ≤ 7 := by have := bits7 x0; omega
  have hn0 : 0 ≤ n := by have := bits63 x3; omega
  have hn63 : n ≤ 63 := by have := bits63 x3; omega
  have hv0 : -2000 ≤ vx := by have := tmod_bd x1; omega
  have hv1 : vx ≤ 2000 := by have := tmod_bd x1; omega
  have hv2 : -2000 ≤ vy := by have := tmod_bd x2; omega
  have hv3 : vy ≤ 2000 := by have := tmod_bd x2; omega
  have b0 := h0.1
  have b1 := h0.2
  have b2 := h1.1
  have b3 := h1.2
  have b4 := h2.1
  have b5 := h2.2
  have b6 := h3.1
  have b7 := h3.2
  clear h0 h1 h2 h3
  go_enter Try.func15, Try.ntmps15
  go_wp2_with fail
  refine (awake18_any _).calls.mono ?_
  rintro e _ ⟨rfl, w1, rfl⟩
  go_wp2_with fail
  go_cut [7, 8, 9] (fun s7 s8 s9 wx => ∃ b8 : Nat, s7 = .int .i64 t ∧ s8 = .pointer (some ⟨b8, 0, none⟩) ∧ s9 = .int .i64 n ∧ VarV wx b8 (vx, vy) ∧ SinceOf w wx)
  case first =>
    go_big_region
    go_wp2_with fail
    go_meet
    exact ⟨_, rfl, rfl, rfl, ⟨by simp [go_sem], by simp [go_sem], by simp [go_sem], by simp [go_sem], by simp [go_sem]⟩, by (repeat (first | (with_reducible exact SinceOf.refl _) | (with_reducible assumption) | (with_reducible refine SinceOf.alloc ?_ _) | (with_reducible refine SinceOf.drew ?_) | (with_reducible refine SinceOf.drewN ?_ _) | (with_reducible refine SinceOf.later ?_ _) | (with_reducible refine SinceOf.further ?_ _) | (with_reducible refine SinceOf.setCell ?_ (by first | exact Nat.le_refl _ | (simp; done) | omega | (simp; omega)) _)))⟩
  case rest =>
    obtain ⟨b8, rfl, rfl, rfl, v8, ⟨z0, rfl⟩⟩ := hcut
    clear ht hn hvx hvy b0 b1 b2 b3 b4 b5 b6 b7
    cases hm : modB (vxs X)
    · rw [hm] at M1
      clear M2 hm v8
      go_wp2_with fail
      refine (M1 _ (by (repeat (first | (with_reducible exact SinceOf.refl _) | (with_reducible assumption) | (with_reducible refine SinceOf.alloc ?_ _) | (with_reducible refine SinceOf.drew ?_) | (with_reducible refine SinceOf.drewN ?_ _) | (with_reducible refine SinceOf.later ?_ _) | (with_reducible refine SinceOf.further ?_ _) | (with_reducible refine SinceOf.setCell ?_ (by first | exact Nat.le_refl _ | (simp; done) | omega | (simp; omega)) _))))).calls.mono ?_
      rintro e _ ⟨rfl, x2, rfl⟩
      go_wp2_with fail
      go_returns
      exact ⟨rfl, by (repeat (first | (with_reducible exact SinceOf.refl _) | (with_reducible assumption) | (with_reducible refine SinceOf.alloc ?_ _) | (with_reducible refine SinceOf.drew ?_) | (with_reducible refine SinceOf.drewN ?_ _) | (with_reducible refine SinceOf.later ?_ _) | (with_reducible refine SinceOf.further ?_ _) | (with_reducible refine SinceOf.setCell ?_ (by first | exact Nat.le_refl _ | (simp; done) | omega | (simp; omega)) _)))⟩
    cases hm2 : modB (vxs Z)
    · rw [hm] at M1
      rw [hm2] at M2
      clear hm hm2 v8
      go_wp2_with fail
      refine (M1 _ (by (repeat (first | (with_reducible exact SinceOf.refl _) | (with_reducible assumption) | (with_reducible refine SinceOf.alloc ?_ _) | (with_reducible refine SinceOf.drew ?_) | (with_reducible refine SinceOf.drewN ?_ _) | (with_reducible refine SinceOf.later ?_ _) | (with_reducible refine SinceOf.further ?_ _) | (with_reducible refine SinceOf.setCell ?_ (by first | exact Nat.le_refl _ | (simp; done) | omega | (simp; omega)) _))))).calls.mono ?_
      rintro e _ ⟨rfl, x2, rfl⟩
      go_wp2_with fail
      refine (M2 _ (by (repeat (first | (with_reducible exact SinceOf.refl _) | (with_reducible assumption) | (with_reducible refine SinceOf.alloc ?_ _) | (with_reducible refine SinceOf.drew ?_) | (with_reducible refine SinceOf.drewN ?_ _) | (with_reducible refine SinceOf.later ?_ _) | (with_reducible refine SinceOf.further ?_ _) | (with_reducible refine SinceOf.setCell ?_ (by first | exact Nat.le_refl _ | (simp; done) | omega | (simp; omega)) _))))).calls.mono ?_
      rintro e _ ⟨rfl, x3, rfl⟩
      go_wp2_with fail
      go_returns
      exact ⟨rfl, by (repeat (first | (with_reducible exact SinceOf.refl _) | (with_reducible assumption) | (with_reducible refine SinceOf.alloc ?_ _) | (with_reducible refine SinceOf.drew ?_) | (with_reducible refine SinceOf.drewN ?_ _) | (with_reducible refine SinceOf.later ?_ _) | (with_reducible refine SinceOf.further ?_ _) | (with_reducible refine SinceOf.setCell ?_ (by first | exact Nat.le_refl _ | (simp; done) | omega | (simp; omega)) _)))⟩
    obtain ⟨tX, nX⟩ := modB_tame hm
    obtain ⟨tZ, nZ⟩ := modB_tame hm2
    rw [hm] at M1
    rw [hm2] at M2
    have hnv : near 2000 (vx, vy) := by unfold near; simp only; omega
    have hXl := tX.1
    have hZl := tZ.1
    rw [vxs_len] at hXl hZl
    have lX : ∀ x ∈ X, 0 < x.xs.length ∧ x.xs.length ≤ 8 := fun x hx => by
      have := tX.2 _ (List.mem_map.2 ⟨x, hx, rfl⟩)
      have h3 := (convexB_iff.1 this.1).1
      omega
    have lZ : ∀ x ∈ Z, 0 < x.xs.length ∧ x.xs.length ≤ 8 := fun x hx => by
      have := tZ.2 _ (List.mem_map.2 ⟨x, hx, rfl⟩)
      have h3 := (convexB_iff.1 this.1).1
      omega
    have cX : (vxs X).map (chgR t (vx, vy)) = (vxs X).map (chgP t (vx, vy)) := List.map_congr_left fun r hr => chgR_eq (nX r hr) hnv
    have cZ : (vxs Z).map (chgR t (vx, vy)) = (vxs Z).map (chgP t (vx, vy)) := List.map_congr_left fun r hr => chgR_eq (nZ r hr) hnv
    have eA := apart_chg (t := t) (v := (vx, vy)) hn0 (show n ≤ 200 by omega) tX tZ nX nZ hnv
    have eG := gap_chg (t := t) (v := (vx, vy)) hn0 (show n ≤ 200 by omega) tX tZ nX nZ hnv
    rw [← cX, ← cZ] at eA eG
    have eA2 := (tame_apart hn0 (show n ≤ 200 by omega) tX tZ).1
    have len20 : ∀ x ∈ X, x.xs.length ≤ 20 := fun x hx => by have := lX x hx; omega
    have l20 : ∀ r ∈ (vxs X).map (chgR t (vx, vy)), r.length ≤ 20 := fun r hr => by
      rw [cX] at hr
      have := (tame_chg (t := t) tX nX hnv).len20 r hr
      exact this
    have CA := fun W (hW : SinceOf w W) => changed_any A c X t vx vy W (H.out.1.of hW) hXl lX ht0 ht7
    have CB := fun W (hW : SinceOf w W) => changed_any B d Z t vx vy W (H.out.2.of hW) hZl lZ ht0 ht7
    have A1 := fun W (hW : SinceOf w W) => apart_any A B c d X Z n W (H.out.1.of hW) (H.out.2.of hW) (by omega)
    have G1 := fun W (hW : SinceOf w W) => gap_any A B c d X Z n W (H.out.1.of hW) (H.out.2.of hW) (by omega) len20
    have A2 := fun (B1 B2 : Option Addr) (d1 d2 : Nat) (Y1 Y2 : List RgR) W (h1 : IsRings W B1 d1 Y1) (h2 : IsRings W B2 d2 Y2) (l1 : Y1.length = X.length) (l2 : Y2.length = Z.length) (e1 : vxs Y1 = (vxs X).map (chgR t (vx, vy))) (e2 : vxs Y2 = (vxs Z).map (chgR t (vx, vy))) =>
      show Calls Try.prog 48 #[.slice B1 X.length d1, .slice B2 Z.length d2, .int .i64 n] W fun e w' => e = .returned (.tuple #[.bool (apartV (vxs X) (vxs Z) n).1, .int .i64 (apartV (vxs X) (vxs Z) n).2]) ∧ SinceOf W w' from by
        have := apart_any B1 B2 d1 d2 Y1 Y2 n W h1 h2 (by omega)
        rw [l1, l2, e1, e2, eA] at this
        exact this
    have G2 := fun (B1 B2 : Option Addr) (d1 d2 : Nat) (Y1 Y2 : List RgR) W (h1 : IsRings W B1 d1 Y1) (h2 : IsRings W B2 d2 Y2) (l1 : Y1.length = X.length) (l2 : Y2.length = Z.length) (e1 : vxs Y1 = (vxs X).map (chgR t (vx, vy))) (e2 : vxs Y2 = (vxs Z).map (chgR t (vx, vy))) =>
      show Calls Try.prog 50 #[.slice B1 X.length d1, .slice B2 Z.length d2, .int .i64 n] W fun e w' => e = .returned (.tuple #[.int .i64 (gapV (vxs X) (vxs Z) n).1, .int .i64 (gapV (vxs X) (vxs Z) n).2]) ∧ SinceOf W w' from by
        have := gap_any B1 B2 d1 d2 Y1 Y2 n W h1 h2 (by omega) (fun x hx => l20 _ (by rw [← e1]; exact List.mem_map.2 ⟨x, hx, rfl⟩))
        rw [l1, l2, e1, e2, eG] at this
        exact this
    rw [eA2] at A1 A2
    generalize (apartV (vxs X) (vxs Z) n).1 = a1 at *
    generalize (gapV (vxs X) (vxs Z) n).1 = g1 at *
    generalize (gapV (vxs X) (vxs Z) n).2 = g2 at *
    have HA2 := Lib.hid A2
    have HG2 := Lib.hid G2
    have HCA := Lib.hid CA
    have HCB := Lib.hid CB
    have HV := Lib.hid v8
    clear hm hm2 tX tZ nX nZ hnv lX lZ cX cZ eA eG eA2 len20 l20 CA CB A2 G2 v8 hv0 hv1 hv2 hv3
    go_wp2_with fail
    refine (M1 _ (by (repeat (first | (with_reducible exact SinceOf.refl _) | (with_reducible assumption) | (with_reducible refine SinceOf.alloc ?_ _) | (with_reducible refine SinceOf.drew ?_) | (with_reducible refine SinceOf.drewN ?_ _) | (with_reducible refine SinceOf.later ?_ _) | (with_reducible refine SinceOf.further ?_ _) | (with_reducible refine SinceOf.setCell ?_ (by first | exact Nat.le_refl _ | (simp; done) | omega | (simp; omega)) _))))).calls.mono ?_
    rintro e _ ⟨rfl, x2, rfl⟩
    go_wp2_with fail
    refine (M2 _ (by (repeat (first | (with_reducible exact SinceOf.refl _) | (with_reducible assumption) | (with_reducible refine SinceOf.alloc ?_ _) | (with_reducible refine SinceOf.drew ?_) | (with_reducible refine SinceOf.drewN ?_ _) | (with_reducible refine SinceOf.later ?_ _) | (with_reducible refine SinceOf.further ?_ _) | (with_reducible refine SinceOf.setCell ?_ (by first | exact Nat.le_refl _ | (simp; done) | omega | (simp; omega)) _))))).calls.mono ?_
    rintro e _ ⟨rfl, x3, rfl⟩
    clear M1 M2
    go_wp2_with fail
    refine (A1 _ (by (repeat (first | (with_reducible exact SinceOf.refl _) | (with_reducible assumption) | (with_reducible refine SinceOf.alloc ?_ _) | (with_reducible refine SinceOf.drew ?_) | (with_reducible refine SinceOf.drewN ?_ _) | (with_reducible refine SinceOf.later ?_ _) | (with_reducible refine SinceOf.further ?_ _) | (with_reducible refine SinceOf.setCell ?_ (by first | exact Nat.le_refl _ | (simp; done) | omega | (simp; omega)) _))))).mono ?_
    rintro e _ ⟨rfl, ⟨x4, rfl⟩⟩
    clear A1
    obtain ⟨u4, hu4⟩ : SinceOf w x4.wd := by (repeat (first | (with_reducible exact SinceOf.refl _) | (with_reducible assumption) | (with_reducible refine SinceOf.alloc ?_ _) | (with_reducible refine SinceOf.drew ?_) | (with_reducible refine SinceOf.drewN ?_ _) | (with_reducible refine SinceOf.later ?_ _) | (with_reducible refine SinceOf.further ?_ _) | (with_reducible refine SinceOf.setCell ?_ (by first | exact Nat.le_refl _ | (simp; done) | omega | (simp; omega)) _)))
    have hv4 := HV.out.of (W' := x4.wd) (by (repeat (first | (with_reducible exact SinceOf.refl _) | (with_reducible assumption) | (with_reducible refine SinceOf.alloc ?_ _) | (with_reducible refine SinceOf.drew ?_) | (with_reducible refine SinceOf.drewN ?_ _) | (with_reducible refine SinceOf.later ?_ _) | (with_reducible refine SinceOf.further ?_ _) | (with_reducible refine SinceOf.setCell ?_ (by first | exact Nat.le_refl _ | (simp; done) | omega | (simp; omega)) _))))
    rw [hu4] at hv4 ⊢
    have c0 := hv4.c0
    have c1 := hv4.c1
    have o8 : Nonempty (Old u4.wd b8) := ⟨⟨hv4.lt⟩⟩
    have l8 := hv4.lt
    simp only at c0 c1
    clear hu4 hv4
    go_wp2_with fail
    go_cut [12, 13] (fun s12 s13 wx => s12 = .bool a1 ∧ s13 = .int .i64 0 ∧ SinceOf u4.wd wx)
    case first =>
      go_region_held3 (fun w' => w'.cell? ⟨b8, 0, none⟩ = some (.int .i64 vx) ∧ w'.cell? ⟨b8, 1, none⟩ = some (.int .i64 vy)) ((simp [go_sem, *]))
        (first
          | (go_at_call 53; (with_reducible refine (HCA.out _ (by (repeat (first | (with_reducible exact SinceOf.refl _) | (with_reducible assumption) | (with_reducible refine SinceOf.alloc ?_ _) | (with_reducible refine SinceOf.drew ?_) | (with_reducible refine SinceOf.drewN ?_ _) | (with_reducible refine SinceOf.later ?_ _) | (with_reducible refine SinceOf.further ?_ _) | (with_reducible refine SinceOf.setCell ?_ (by first | exact Nat.le_refl _ | (simp; done) | omega | (simp; omega)) _))))).mono ?_); rintro e _ ⟨B1, d1, Y1, rfl, l1, h1, e1, ⟨y1, rfl⟩⟩; have K1 := Lib.hid (And.intro l1 (And.intro h1 e1)); clear l1 h1 e1)
          | (go_at_call 53; (with_reducible refine (HCB.out _ (by (repeat (first | (with_reducible exact SinceOf.refl _) | (with_reducible assumption) | (with_reducible refine SinceOf.alloc ?_ _) | (with_reducible refine SinceOf.drew ?_) | (with_reducible refine SinceOf.drewN ?_ _) | (with_reducible refine SinceOf.later ?_ _) | (with_reducible refine SinceOf.further ?_ _) | (with_reducible refine SinceOf.setCell ?_ (by first | exact Nat.le_refl _ | (simp; done) | omega | (simp; omega)) _))))).mono ?_); rintro e _ ⟨B2, d2, Y2, rfl, l2, h2, e2, ⟨y2, rfl⟩⟩; have K2 := Lib.hid (And.intro l2 (And.intro h2 e2)); clear l2 h2 e2)
          | (go_at_call 48; refine (HA2.out B1 B2 d1 d2 Y1 Y2 _ (K1.out.2.1.of (by (repeat (first | (with_reducible exact SinceOf.refl _) | (with_reducible assumption) | (with_reducible refine SinceOf.alloc ?_ _) | (with_reducible refine SinceOf.drew ?_) | (with_reducible refine SinceOf.drewN ?_ _) | (with_reducible refine SinceOf.later ?_ _) | (with_reducible refine SinceOf.further ?_ _) | (with_reducible refine SinceOf.setCell ?_ (by first | exact Nat.le_refl _ | (simp; done) | omega | (simp; omega)) _))))) (K2.out.2.1.of (by (repeat (first | (with_reducible exact SinceOf.refl _) | (with_reducible assumption) | (with_reducible refine SinceOf.alloc ?_ _) | (with_reducible refine SinceOf.drew ?_) | (with_reducible refine SinceOf.drewN ?_ _) | (with_reducible refine SinceOf.later ?_ _) | (with_reducible refine SinceOf.further ?_ _) | (with_reducible refine SinceOf.setCell ?_ (by first | exact Nat.le_refl _ | (simp; done) | omega | (simp; omega)) _))))) K1.out.1 K2.out.1 K1.out.2.2 K2.out.2.2).mono ?_; rintro e _ ⟨rfl, ⟨y3, rfl⟩⟩))
      all_goals
        go_wp2_with fail
        go_meet
        exact ⟨rfl, rfl, by (repeat (first | (with_reducible exact SinceOf.refl _) | (with_reducible assumption) | (with_reducible refine SinceOf.alloc ?_ _) | (with_reducible refine SinceOf.drew ?_) | (with_reducible refine SinceOf.drewN ?_ _) | (with_reducible refine SinceOf.later ?_ _) | (with_reducible refine SinceOf.further ?_ _) | (with_reducible refine SinceOf.setCell ?_ (by first | exact Nat.le_refl _ | (simp; done) | omega | (simp; omega)) _)))⟩
    case rest =>
      obtain ⟨rfl, rfl, ⟨u5, rfl⟩⟩ := hcut
      go_wp2_with fail
      refine (G1 _ (by (repeat (first | (with_reducible exact SinceOf.refl _) | (with_reducible assumption) | (with_reducible refine SinceOf.alloc ?_ _) | (with_reducible refine SinceOf.drew ?_) | (with_reducible refine SinceOf.drewN ?_ _) | (with_reducible refine SinceOf.later ?_ _) | (with_reducible refine SinceOf.further ?_ _) | (with_reducible refine SinceOf.setCell ?_ (by first | exact Nat.le_refl _ | (simp; done) | omega | (simp; omega)) _))))).mono ?_
      rintro e _ ⟨rfl, ⟨x6, rfl⟩⟩
      clear G1
      obtain ⟨u6, hu6⟩ : SinceOf u4.wd x6.wd := by (repeat (first | (with_reducible exact SinceOf.refl _) | (with_reducible assumption) | (with_reducible refine SinceOf.alloc ?_ _) | (with_reducible refine SinceOf.drew ?_) | (with_reducible refine SinceOf.drewN ?_ _) | (with_reducible refine SinceOf.later ?_ _) | (with_reducible refine SinceOf.further ?_ _) | (with_reducible refine SinceOf.setCell ?_ (by first | exact Nat.le_refl _ | (simp; done) | omega | (simp; omega)) _)))
      rw [hu6]
      have k0 : u6.wd.cell? ⟨b8, 0, none⟩ = some (.int .i64 vx) := by rw [Since.cell]; exact c0
      have k1 : u6.wd.cell? ⟨b8, 1, none⟩ = some (.int .i64 vy) := by rw [Since.cell]; exact c1
      have o9 : Nonempty (Old u6.wd b8) := inferInstance
      clear c0 c1 hu6
      have r1 : (a1 == a1) = true := by simp
      have r2 : (g1 == g1) = true := by simp
      have r3 : (g2 == g2) = true := by simp
      go_wp2_with fail
      go_cut [16, 17] (fun s16 s17 wx => s16 = .int .i64 g1 ∧ s17 = .int .i64 g2 ∧ SinceOf u6.wd wx)
      case first =>
        go_region_held3 (fun w' => w'.cell? ⟨b8, 0, none⟩ = some (.int .i64 vx) ∧ w'.cell? ⟨b8, 1, none⟩ = some (.int .i64 vy)) ((simp [go_sem, *]))
          (first
            | (go_at_call 53; (with_reducible refine (HCA.out _ (by (repeat (first | (with_reducible exact SinceOf.refl _) | (with_reducible assumption) | (with_reducible refine SinceOf.alloc ?_ _) | (with_reducible refine SinceOf.drew ?_) | (with_reducible refine SinceOf.drewN ?_ _) | (with_reducible refine SinceOf.later ?_ _) | (with_reducible refine SinceOf.further ?_ _) | (with_reducible refine SinceOf.setCell ?_ (by first | exact Nat.le_refl _ | (simp; done) | omega | (simp; omega)) _))))).mono ?_); rintro e _ ⟨B1, d1, Y1, rfl, l1, h1, e1, ⟨y1, rfl⟩⟩; have K1 := Lib.hid (And.intro l1 (And.intro h1 e1)); clear l1 h1 e1)
            | (go_at_call 53; (with_reducible refine (HCB.out _ (by (repeat (first | (with_reducible exact SinceOf.refl _) | (with_reducible assumption) | (with_reducible refine SinceOf.alloc ?_ _) | (with_reducible refine SinceOf.drew ?_) | (with_reducible refine SinceOf.drewN ?_ _) | (with_reducible refine SinceOf.later ?_ _) | (with_reducible refine SinceOf.further ?_ _) | (with_reducible refine SinceOf.setCell ?_ (by first | exact Nat.le_refl _ | (simp; done) | omega | (simp; omega)) _))))).mono ?_); rintro e _ ⟨B2, d2, Y2, rfl, l2, h2, e2, ⟨y2, rfl⟩⟩; have K2 := Lib.hid (And.intro l2 (And.intro h2 e2)); clear l2 h2 e2)
            | (go_at_call 50; refine (HG2.out B1 B2 d1 d2 Y1 Y2 _ (K1.out.2.1.of (by (repeat (first | (with_reducible exact SinceOf.refl _) | (with_reducible assumption) | (with_reducible refine SinceOf.alloc ?_ _) | (with_reducible refine SinceOf.drew ?_) | (with_reducible refine SinceOf.drewN ?_ _) | (with_reducible refine SinceOf.later ?_ _) | (with_reducible refine SinceOf.further ?_ _) | (with_reducible refine SinceOf.setCell ?_ (by first | exact Nat.le_refl _ | (simp; done) | omega | (simp; omega)) _))))) (K2.out.2.1.of (by (repeat (first | (with_reducible exact SinceOf.refl _) | (with_reducible assumption) | (with_reducible refine SinceOf.alloc ?_ _) | (with_reducible refine SinceOf.drew ?_) | (with_reducible refine SinceOf.drewN ?_ _) | (with_reducible refine SinceOf.later ?_ _) | (with_reducible refine SinceOf.further ?_ _) | (with_reducible refine SinceOf.setCell ?_ (by first | exact Nat.le_refl _ | (simp; done) | omega | (simp; omega)) _))))) K1.out.1 K2.out.1 K1.out.2.2 K2.out.2.2).mono ?_; rintro e _ ⟨rfl, ⟨y3, rfl⟩⟩))
        all_goals
          go_wp2_with fail
          go_meet
          exact ⟨rfl, rfl, by (repeat (first | (with_reducible exact SinceOf.refl _) | (with_reducible assumption) | (with_reducible refine SinceOf.alloc ?_ _) | (with_reducible refine SinceOf.drew ?_) | (with_reducible refine SinceOf.drewN ?_ _) | (with_reducible refine SinceOf.later ?_ _) | (with_reducible refine SinceOf.further ?_ _) | (with_reducible refine SinceOf.setCell ?_ (by first | exact Nat.le_refl _ | (simp; done) | omega | (simp; omega)) _)))⟩
      case rest =>
        obtain ⟨rfl, rfl, ⟨u7, rfl⟩⟩ := hcut
        go_wp2_with fail
        go_returns
        exact ⟨by simp, by (repeat (first | (with_reducible exact SinceOf.refl _) | (with_reducible assumption) | (with_reducible refine SinceOf.alloc ?_ _) | (with_reducible refine SinceOf.drew ?_) | (with_reducible refine SinceOf.drewN ?_ _) | (with_reducible refine SinceOf.later ?_ _) | (with_reducible refine SinceOf.further ?_ _) | (with_reducible refine SinceOf.setCell ?_ (by first | exact Nat.le_refl _ | (simp; done) | omega | (simp; omega)) _)))⟩
end Go.Proofs.Yticmfmcflikneaa
