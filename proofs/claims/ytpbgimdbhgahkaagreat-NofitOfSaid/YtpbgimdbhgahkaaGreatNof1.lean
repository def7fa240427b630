/- Layer 16: Forbidden and Touches, of the program and of the reference. -/
import Derived.Test.YtpbgimdbhgahkaaGreatMink7
import Derived.Test.YtpbgimdbhgahkaaGreatMinkA3
namespace Go.Proofs.YtpbgimdbhgahkaaGreat
open Go.RowKit Go.Sort
set_option linter.unusedVariables false
set_option linter.unusedSimpArgs false
attribute [local go_sem ↓] Go.wp_at_zero Go.wp_at_succ

set_option maxRecDepth 100000 in
set_option maxHeartbeats 4000000 in
theorem forbFn_any (A : Option Addr) (c : Nat) (r : List (Int × Int)) (b : Nat) (px py : Int) (w : World) (h : IsVecs w A c r) (hlen : r.length ≤ 100000) (q0 : w.cell? ⟨b, 0, none⟩ = some (.int .i64 px)) (q1 : w.cell? ⟨b, 1, none⟩ = some (.int .i64 py)) (hO : Nonempty (Old w b)) :
    Gives Tryz.prog 29 #[.slice A r.length c, .pointer (some ⟨b, 0, none⟩)] w (.bool (whereM r (px, py) == 2)) := by
  apply Gives.ret
  have W1 := where_any A c r px py w h hlen
  generalize whereM r (px, py) = t at *
  clear h hlen
  go_enter Tryz.func29, Tryz.ntmps29
  go_wp2_with fail
  refine W1.calls.mono ?_
  rintro e _ ⟨rfl, x1, rfl⟩
  go_wp2_with fail
  go_returns
  exact ⟨by first | rfl | simp, by (repeat (first | (with_reducible exact LaterOf.refl _) | (with_reducible refine LaterOf.alloc ?_ _) | (with_reducible refine LaterOf.drew ?_) | (with_reducible refine LaterOf.drewN ?_ _) | (with_reducible refine LaterOf.later ?_ _) | (with_reducible refine LaterOf.setCell ?_ (by first | exact Nat.le_refl _ | (simp; done) | omega | (simp; omega)) _)))⟩
set_option maxRecDepth 100000 in
set_option maxHeartbeats 4000000 in
theorem forbIndex_any (A : Option Addr) (c : Nat) (X : List RgR) (b : Nat) (px py : Int) (w : World) (h : IsRings w A c X) (hs : ∀ x ∈ X, x.xs.length ≤ 100000) (q0 : w.cell? ⟨b, 0, none⟩ = some (.int .i64 px)) (q1 : w.cell? ⟨b, 1, none⟩ = some (.int .i64 py)) (hO : Nonempty (Old w b)) :
    Calls Tryz.prog 50 #[.slice A X.length c, .func (.func 29) #[] #[.pointer (some ⟨b, 0, none⟩)]] w fun e w' => ∃ r : Int, e = .returned (.int .i64 r) ∧ decide (0 ≤ r) = (vxs X).any (fun r => whereM r (px, py) == 2) ∧ LaterOf w w' := by
  have hlen := h.len
  have H := Lib.hid (And.intro h (And.intro hs (And.intro q0 q1)))
  clear h hs q0 q1
  go_enter Tryz.func50, Tryz.ntmps50
  go_wp2_with fail
  go_loopg [8] X.length (fun gas s8 wr => ∃ k : Nat, k ≤ X.length ∧ X.length - k ≤ gas ∧ s8 = .int .i64 k ∧ LaterOf w wr ∧ (vxs X).any (fun r => whereM r (px, py) == 2) = ((vxs X).drop k).any (fun r => whereM r (px, py) == 2))
  case atStart => exact ⟨0, by omega, by omega, rfl, by (repeat (first | (with_reducible exact LaterOf.refl _) | (with_reducible refine LaterOf.alloc ?_ _) | (with_reducible refine LaterOf.drew ?_) | (with_reducible refine LaterOf.drewN ?_ _) | (with_reducible refine LaterOf.later ?_ _) | (with_reducible refine LaterOf.setCell ?_ (by first | exact Nat.le_refl _ | (simp; done) | omega | (simp; omega)) _))), by rw [List.drop_zero]⟩
  case round =>
    obtain ⟨k, hk, hgas, rfl, ⟨z, rfl⟩, hany⟩ := hrel
    by_cases hlt : k < X.length
    · have hx0 := H.out.1.of (w' := z.wd) (LaterOf.since ⟨z, rfl⟩)
      obtain ⟨g, off, rfl, hr⟩ := hx0.row.at_ (by omega)
      have hO1 := hr.there
      have k0 := hr.g0 k hlt
      have C := forbFn_any X[k].A X[k].c X[k].xs b px py z.wd (hx0.all _ (List.getElem_mem hlt)).row (H.out.2.1 _ (List.getElem_mem hlt)) (by rw [Later.cell]; exact H.out.2.2.1) (by rw [Later.cell]; exact H.out.2.2.2) inferInstance
      have hd : (vxs X).drop k = X[k].xs :: (vxs X).drop (k + 1) := by
        rw [List.drop_eq_getElem_cons (by rw [vxs_len]; exact hlt), vxs_at hlt]
      rw [hd, List.any_cons] at hany
      generalize X[k] = x at *
      generalize (whereM x.xs (px, py) == 2) = t at *
      clear hr hx0 hd
      cases t
      · rw [Bool.false_or] at hany
        have HA := Lib.hid hany
        clear hany
        go_wp2_with fail
        refine C.calls.mono ?_
        rintro e _ ⟨rfl, x1, rfl⟩
        go_wp2_with fail
        go_roundg (X.length - (k + 1))
        case measure => omega
        case rel => exact ⟨k + 1, hlt, Nat.le_refl _, by go_num, by (repeat (first | (with_reducible exact LaterOf.refl _) | (with_reducible refine LaterOf.alloc ?_ _) | (with_reducible refine LaterOf.drew ?_) | (with_reducible refine LaterOf.drewN ?_ _) | (with_reducible refine LaterOf.later ?_ _) | (with_reducible refine LaterOf.setCell ?_ (by first | exact Nat.le_refl _ | (simp; done) | omega | (simp; omega)) _))), HA.out⟩
      · rw [Bool.true_or] at hany
        have HA := Lib.hid hany
        clear hany
        go_wp2_with fail
        refine C.calls.mono ?_
        rintro e _ ⟨rfl, x1, rfl⟩
        go_wp2_with fail
        go_returns
        exact ⟨(k : Int), rfl, by rw [HA.out]; simp, by (repeat (first | (with_reducible exact LaterOf.refl _) | (with_reducible refine LaterOf.alloc ?_ _) | (with_reducible refine LaterOf.drew ?_) | (with_reducible refine LaterOf.drewN ?_ _) | (with_reducible refine LaterOf.later ?_ _) | (with_reducible refine LaterOf.setCell ?_ (by first | exact Nat.le_refl _ | (simp; done) | omega | (simp; omega)) _)))⟩
    · have hkl : k = X.length := by omega
      rw [hkl, List.drop_of_length_le (by rw [vxs_len]; exact Nat.le_refl _)] at hany
      have HA := Lib.hid hany
      clear hany
      go_wp2_with fail
      go_returns
      exact ⟨-1, rfl, by rw [HA.out]; rfl, by (repeat (first | (with_reducible exact LaterOf.refl _) | (with_reducible refine LaterOf.alloc ?_ _) | (with_reducible refine LaterOf.drew ?_) | (with_reducible refine LaterOf.drewN ?_ _) | (with_reducible refine LaterOf.later ?_ _) | (with_reducible refine LaterOf.setCell ?_ (by first | exact Nat.le_refl _ | (simp; done) | omega | (simp; omega)) _)))⟩
set_option maxRecDepth 100000 in
set_option maxHeartbeats 4000000 in
theorem forbContains_any (A : Option Addr) (c : Nat) (X : List RgR) (b : Nat) (px py : Int) (w : World) (h : IsRings w A c X) (hs : ∀ x ∈ X, x.xs.length ≤ 100000) (q0 : w.cell? ⟨b, 0, none⟩ = some (.int .i64 px)) (q1 : w.cell? ⟨b, 1, none⟩ = some (.int .i64 py)) (hO : Nonempty (Old w b)) :
    Gives Tryz.prog 28 #[.slice A X.length c, .func (.func 29) #[] #[.pointer (some ⟨b, 0, none⟩)]] w (.bool ((vxs X).any (fun r => whereM r (px, py) == 2))) := by
  apply Gives.ret
  have C := forbIndex_any A c X b px py w h hs q0 q1 hO
  generalize (vxs X).any (fun r => whereM r (px, py) == 2) = t at *
  clear h hs q0 q1 hO
  go_enter Tryz.func28, Tryz.ntmps28
  go_wp2_with fail
  refine C.mono ?_
  rintro e _ ⟨r, rfl, hr, x1, rfl⟩
  go_wp2_with fail
  go_returns
  exact ⟨rfl, by (repeat (first | (with_reducible exact LaterOf.refl _) | (with_reducible refine LaterOf.alloc ?_ _) | (with_reducible refine LaterOf.drew ?_) | (with_reducible refine LaterOf.drewN ?_ _) | (with_reducible refine LaterOf.later ?_ _) | (with_reducible refine LaterOf.setCell ?_ (by first | exact Nat.le_refl _ | (simp; done) | omega | (simp; omega)) _)))⟩

set_option maxRecDepth 100000 in
set_option maxHeartbeats 4000000 in
theorem touchFn_any (A : Option Addr) (c : Nat) (r : List (Int × Int)) (b : Nat) (px py : Int) (w : World) (h : IsVecs w A c r) (hlen : r.length ≤ 100000) (q0 : w.cell? ⟨b, 0, none⟩ = some (.int .i64 px)) (q1 : w.cell? ⟨b, 1, none⟩ = some (.int .i64 py)) (hO : Nonempty (Old w b)) :
    Gives Tryz.prog 31 #[.slice A r.length c, .pointer (some ⟨b, 0, none⟩)] w (.bool (whereM r (px, py) == 1)) := by
  apply Gives.ret
  have W1 := where_any A c r px py w h hlen
  generalize whereM r (px, py) = t at *
  clear h hlen
  go_enter Tryz.func31, Tryz.ntmps31
  go_wp2_with fail
  refine W1.calls.mono ?_
  rintro e _ ⟨rfl, x1, rfl⟩
  go_wp2_with fail
  go_returns
  exact ⟨by first | rfl | simp, by (repeat (first | (with_reducible exact LaterOf.refl _) | (with_reducible refine LaterOf.alloc ?_ _) | (with_reducible refine LaterOf.drew ?_) | (with_reducible refine LaterOf.drewN ?_ _) | (with_reducible refine LaterOf.later ?_ _) | (with_reducible refine LaterOf.setCell ?_ (by first | exact Nat.le_refl _ | (simp; done) | omega | (simp; omega)) _)))⟩
set_option maxRecDepth 100000 in
set_option maxHeartbeats 4000000 in
theorem touchIndex_any (A : Option Addr) (c : Nat) (X : List RgR) (b : Nat) (px py : Int) (w : World) (h : IsRings w A c X) (hs : ∀ x ∈ X, x.xs.length ≤ 100000) (q0 : w.cell? ⟨b, 0, none⟩ = some (.int .i64 px)) (q1 : w.cell? ⟨b, 1, none⟩ = some (.int .i64 py)) (hO : Nonempty (Old w b)) :
    Calls Tryz.prog 50 #[.slice A X.length c, .func (.func 31) #[] #[.pointer (some ⟨b, 0, none⟩)]] w fun e w' => ∃ r : Int, e = .returned (.int .i64 r) ∧ decide (0 ≤ r) = (vxs X).any (fun r => whereM r (px, py) == 1) ∧ LaterOf w w' := by
  have hlen := h.len
  have H := Lib.hid (And.intro h (And.intro hs (And.intro q0 q1)))
  clear h hs q0 q1
  go_enter Tryz.func50, Tryz.ntmps50
  go_wp2_with fail
  go_loopg [8] X.length (fun gas s8 wr => ∃ k : Nat, k ≤ X.length ∧ X.length - k ≤ gas ∧ s8 = .int .i64 k ∧ LaterOf w wr ∧ (vxs X).any (fun r => whereM r (px, py) == 1) = ((vxs X).drop k).any (fun r => whereM r (px, py) == 1))
  case atStart => exact ⟨0, by omega, by omega, rfl, by (repeat (first | (with_reducible exact LaterOf.refl _) | (with_reducible refine LaterOf.alloc ?_ _) | (with_reducible refine LaterOf.drew ?_) | (with_reducible refine LaterOf.drewN ?_ _) | (with_reducible refine LaterOf.later ?_ _) | (with_reducible refine LaterOf.setCell ?_ (by first | exact Nat.le_refl _ | (simp; done) | omega | (simp; omega)) _))), by rw [List.drop_zero]⟩
  case round =>
    obtain ⟨k, hk, hgas, rfl, ⟨z, rfl⟩, hany⟩ := hrel
    by_cases hlt : k < X.length
    · have hx0 := H.out.1.of (w' := z.wd) (LaterOf.since ⟨z, rfl⟩)
      obtain ⟨g, off, rfl, hr⟩ := hx0.row.at_ (by omega)
      have hO1 := hr.there
      have k0 := hr.g0 k hlt
      have C := touchFn_any X[k].A X[k].c X[k].xs b px py z.wd (hx0.all _ (List.getElem_mem hlt)).row (H.out.2.1 _ (List.getElem_mem hlt)) (by rw [Later.cell]; exact H.out.2.2.1) (by rw [Later.cell]; exact H.out.2.2.2) inferInstance
      have hd : (vxs X).drop k = X[k].xs :: (vxs X).drop (k + 1) := by
        rw [List.drop_eq_getElem_cons (by rw [vxs_len]; exact hlt), vxs_at hlt]
      rw [hd, List.any_cons] at hany
      generalize X[k] = x at *
      generalize (whereM x.xs (px, py) == 1) = t at *
      clear hr hx0 hd
      cases t
      · rw [Bool.false_or] at hany
        have HA := Lib.hid hany
        clear hany
        go_wp2_with fail
        refine C.calls.mono ?_
        rintro e _ ⟨rfl, x1, rfl⟩
        go_wp2_with fail
        go_roundg (X.length - (k + 1))
        case measure => omega
        case rel => exact ⟨k + 1, hlt, Nat.le_refl _, by go_num, by (repeat (first | (with_reducible exact LaterOf.refl _) | (with_reducible refine LaterOf.alloc ?_ _) | (with_reducible refine LaterOf.drew ?_) | (with_reducible refine LaterOf.drewN ?_ _) | (with_reducible refine LaterOf.later ?_ _) | (with_reducible refine LaterOf.setCell ?_ (by first | exact Nat.le_refl _ | (simp; done) | omega | (simp; omega)) _))), HA.out⟩
      · rw [Bool.true_or] at hany
        have HA := Lib.hid hany
        clear hany
        go_wp2_with fail
        refine C.calls.mono ?_
        rintro e _ ⟨rfl, x1, rfl⟩
        go_wp2_with fail
        go_returns
        exact ⟨(k : Int), rfl, by rw [HA.out]; simp, by (repeat (first | (with_reducible exact LaterOf.refl _) | (with_reducible refine LaterOf.alloc ?_ _) | (with_reducible refine LaterOf.drew ?_) | (with_reducible refine LaterOf.drewN ?_ _) | (with_reducible refine LaterOf.later ?_ _) | (with_reducible refine LaterOf.setCell ?_ (by first | exact Nat.le_refl _ | (simp; done) | omega | (simp; omega)) _)))⟩
    · have hkl : k = X.length := by omega
      rw [hkl, List.drop_of_length_le (by rw [vxs_len]; exact Nat.le_refl _)] at hany
      have HA := Lib.hid hany
      clear hany
      go_wp2_with fail
      go_returns
      exact ⟨-1, rfl, by rw [HA.out]; rfl, by (repeat (first | (with_reducible exact LaterOf.refl _) | (with_reducible refine LaterOf.alloc ?_ _) | (with_reducible refine LaterOf.drew ?_) | (with_reducible refine LaterOf.drewN ?_ _) | (with_reducible refine LaterOf.later ?_ _) | (with_reducible refine LaterOf.setCell ?_ (by first | exact Nat.le_refl _ | (simp; done) | omega | (simp; omega)) _)))⟩
set_option maxRecDepth 100000 in
set_option maxHeartbeats 4000000 in
theorem touchContains_any (A : Option Addr) (c : Nat) (X : List RgR) (b : Nat) (px py : Int) (w : World) (h : IsRings w A c X) (hs : ∀ x ∈ X, x.xs.length ≤ 100000) (q0 : w.cell? ⟨b, 0, none⟩ = some (.int .i64 px)) (q1 : w.cell? ⟨b, 1, none⟩ = some (.int .i64 py)) (hO : Nonempty (Old w b)) :
    Gives Tryz.prog 28 #[.slice A X.length c, .func (.func 31) #[] #[.pointer (some ⟨b, 0, none⟩)]] w (.bool ((vxs X).any (fun r => whereM r (px, py) == 1))) := by
  apply Gives.ret
  have C := touchIndex_any A c X b px py w h hs q0 q1 hO
  generalize (vxs X).any (fun r => whereM r (px, py) == 1) = t at *
  clear h hs q0 q1 hO
  go_enter Tryz.func28, Tryz.ntmps28
  go_wp2_with fail
  refine C.mono ?_
  rintro e _ ⟨r, rfl, hr, x1, rfl⟩
  go_wp2_with fail
  go_returns
  exact ⟨rfl, by (repeat (first | (with_reducible exact LaterOf.refl _) | (with_reducible refine LaterOf.alloc ?_ _) | (with_reducible refine LaterOf.drew ?_) | (with_reducible refine LaterOf.drewN ?_ _) | (with_reducible refine LaterOf.later ?_ _) | (with_reducible refine LaterOf.setCell ?_ (by first | exact Nat.le_refl _ | (simp; done) | omega | (simp; omega)) _)))⟩

def forbB (S : List (List Pt)) (v : Pt) : Bool := S.any (fun r => whereM r v == 2)
def touchB (S : List (List Pt)) (v : Pt) : Bool := !forbB S v && S.any (fun r => whereM r v == 1)
set_option maxRecDepth 100000 in
set_option maxHeartbeats 4000000 in
theorem forbidden_any (A : Option Addr) (c : Nat) (X : List RgR) (px py : Int) (w : World) (h : IsRings w A c X) (hs : ∀ x ∈ X, x.xs.length ≤ 100000) :
    Gives Tryz.prog 14 #[.slice A X.length c, vv px py] w (.bool (forbB (vxs X) (px, py))) := by
  apply Gives.ret
  have C := fun W (hW : SinceOf w W) (b : Nat) => forbContains_any A c X b px py W (h.of hW) hs
  rw [show (vxs X).any (fun r => whereM r (px, py) == 2) = forbB (vxs X) (px, py) from rfl] at C
  generalize forbB (vxs X) (px, py) = t at *
  clear h hs
  go_enter Tryz.func14, Tryz.ntmps14
  go_wp2_with fail
  refine (C _ (by (repeat (first | (with_reducible exact SinceOf.refl _) | (with_reducible assumption) | (with_reducible refine SinceOf.alloc ?_ _) | (with_reducible refine SinceOf.drew ?_) | (with_reducible refine SinceOf.drewN ?_ _) | (with_reducible refine SinceOf.later ?_ _) | (with_reducible refine SinceOf.further ?_ _) | (with_reducible refine SinceOf.setCell ?_ (by first | exact Nat.le_refl _ | (simp; done) | omega | (simp; omega)) _)))) _ (by simp [go_sem]) (by simp [go_sem]) inferInstance).calls.mono ?_
  rintro e _ ⟨rfl, x1, rfl⟩
  go_wp2_with fail
  go_returns
  exact ⟨rfl, by (repeat (first | (with_reducible exact LaterOf.refl _) | (with_reducible refine LaterOf.alloc ?_ _) | (with_reducible refine LaterOf.drew ?_) | (with_reducible refine LaterOf.drewN ?_ _) | (with_reducible refine LaterOf.later ?_ _) | (with_reducible refine LaterOf.setCell ?_ (by first | exact Nat.le_refl _ | (simp; done) | omega | (simp; omega)) _)))⟩
set_option maxRecDepth 100000 in
set_option maxHeartbeats 4000000 in
theorem touches_any (A : Option Addr) (c : Nat) (X : List RgR) (px py : Int) (w : World) (h : IsRings w A c X) (hs : ∀ x ∈ X, x.xs.length ≤ 100000) :
    Gives Tryz.prog 15 #[.slice A X.length c, vv px py] w (.bool (touchB (vxs X) (px, py))) := by
  apply Gives.ret
  have F := fun W (hW : SinceOf w W) => forbidden_any A c X px py W (h.of hW) hs
  have C := fun W (hW : SinceOf w W) (b : Nat) => touchContains_any A c X b px py W (h.of hW) hs
  unfold touchB
  generalize forbB (vxs X) (px, py) = f at *
  generalize (vxs X).any (fun r => whereM r (px, py) == 1) = t at *
  clear h hs
  cases f
  · go_enter Tryz.func15, Tryz.ntmps15
    go_wp2_with fail
    refine (F _ (by (repeat (first | (with_reducible exact SinceOf.refl _) | (with_reducible assumption) | (with_reducible refine SinceOf.alloc ?_ _) | (with_reducible refine SinceOf.drew ?_) | (with_reducible refine SinceOf.drewN ?_ _) | (with_reducible refine SinceOf.later ?_ _) | (with_reducible refine SinceOf.further ?_ _) | (with_reducible refine SinceOf.setCell ?_ (by first | exact Nat.le_refl _ | (simp; done) | omega | (simp; omega)) _))))).calls.mono ?_
    rintro e _ ⟨rfl, x1, rfl⟩
    go_wp2_with fail
    refine (C _ (by (repeat (first | (with_reducible exact SinceOf.refl _) | (with_reducible assumption) | (with_reducible refine SinceOf.alloc ?_ _) | (with_reducible refine SinceOf.drew ?_) | (with_reducible refine SinceOf.drewN ?_ _) | (with_reducible refine SinceOf.later ?_ _) | (with_reducible refine SinceOf.further ?_ _) | (with_reducible refine SinceOf.setCell ?_ (by first | exact Nat.le_refl _ | (simp; done) | omega | (simp; omega)) _)))) _ (by simp [go_sem]) (by simp [go_sem]) inferInstance).calls.mono ?_
    rintro e _ ⟨rfl, x2, rfl⟩
    go_wp2_with fail
    go_returns
    exact ⟨by first | rfl | simp, by (repeat (first | (with_reducible exact LaterOf.refl _) | (with_reducible refine LaterOf.alloc ?_ _) | (with_reducible refine LaterOf.drew ?_) | (with_reducible refine LaterOf.drewN ?_ _) | (with_reducible refine LaterOf.later ?_ _) | (with_reducible refine LaterOf.setCell ?_ (by first | exact Nat.le_refl _ | (simp; done) | omega | (simp; omega)) _)))⟩
  · go_enter Tryz.func15, Tryz.ntmps15
    go_wp2_with fail
    refine (F _ (by (repeat (first | (with_reducible exact SinceOf.refl _) | (with_reducible assumption) | (with_reducible refine SinceOf.alloc ?_ _) | (with_reducible refine SinceOf.drew ?_) | (with_reducible refine SinceOf.drewN ?_ _) | (with_reducible refine SinceOf.later ?_ _) | (with_reducible refine SinceOf.further ?_ _) | (with_reducible refine SinceOf.setCell ?_ (by first | exact Nat.le_refl _ | (simp; done) | omega | (simp; omega)) _))))).calls.mono ?_
    rintro e _ ⟨rfl, x1, rfl⟩
    go_wp2_with fail
    go_returns
    exact ⟨by first | rfl | simp, by (repeat (first | (with_reducible exact LaterOf.refl _) | (with_reducible refine LaterOf.alloc ?_ _) | (with_reducible refine LaterOf.drew ?_) | (with_reducible refine LaterOf.drewN ?_ _) | (with_reducible refine LaterOf.later ?_ _) | (with_reducible refine LaterOf.setCell ?_ (by first | exact Nat.le_refl _ | (simp; done) | omega | (simp; omega)) _)))⟩
theorem LaterOf.trans {a b c : World} (h : LaterOf a b) (k : LaterOf b c) : LaterOf a c := by
  obtain ⟨x, rfl⟩ := h; obtain ⟨y, rfl⟩ := k; exact ⟨x.trans y, rfl⟩

end Go.Proofs.YtpbgimdbhgahkaaGreat
