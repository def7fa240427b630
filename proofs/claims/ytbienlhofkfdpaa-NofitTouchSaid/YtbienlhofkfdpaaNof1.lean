/- Layer 16: Forbidden and Touches, of the program and of the reference. -/
import Derived.Test.YtbienlhofkfdpaaMink7
import Derived.Test.YtbienlhofkfdpaaMinkA3
namespace Go.Proofs.Ytbienlhofkfdpaa
open Go.RowKit Go.Sort
set_option linter.unusedVariables false
set_option linter.unusedSimpArgs false
attribute [local go_sem ↓] Go.wp_at_zero Go.wp_at_succ

set_option maxRecDepth 100000 in
set_option maxHeartbeats 4000000 in
theorem forbFn_any (A : Option Addr) (c : Nat) (r : List (Int × Int)) (b : Nat) (px py : Int) (w : World) (h : IsVecs w A c r) (hlen : r.length ≤ 100000) (q0 : w.cell? ⟨b, 0, none⟩ = some (.int .i64 px)) (q1 : w.cell? ⟨b, 1, none⟩ = some (.int .i64 py)) (hO : Nonempty (Old w b)) :
    Gives Try.prog 81 #[.slice A r.length c, .pointer (some ⟨b, 0, none⟩)] w (.bool (whereM r (px, py) == 2)) := by
  apply Gives.ret
  have W1 := where_any A c r px py w h hlen
  generalize whereM r (px, py) = t at *
  clear h hlen
  go_enter Try.func81, Try.ntmps81
  go_wp2_with fail
  refine W1.calls.mono ?_
  rintro e _ ⟨rfl, x1, rfl⟩
  go_wp2_with fail
  go_returns
  exact ⟨by first | rfl | simp, by (repeat (first | (with_reducible exact LaterOf.refl _) | (with_reducible refine LaterOf.alloc ?_ _) | (with_reducible refine LaterOf.drew ?_) | (with_reducible refine LaterOf.drewN ?_ _) | (with_reducible refine LaterOf.later ?_ _) | (with_reducible refine LaterOf.setCell ?_ (by first | exact Nat.le_refl _ | (simp; done) | omega | (simp; omega)) _)))⟩
set_option maxRecDepth 100000 in
set_option maxHeartbeats 4000000 in
theorem forbIndex_any (A : Option Addr) (c : Nat) (X : List RgR) (b : Nat) (px py : Int) (w : World) (h : IsRings w A c X) (hs : ∀ x ∈ X, x.xs.length ≤ 100000) (q0 : w.cell? ⟨b, 0, none⟩ = some (.int .i64 px)) (q1 : w.cell? ⟨b, 1, none⟩ = some (.int .i64 py)) (hO : Nonempty (Old w b)) :
    Calls Try.prog 107 #[.slice A X.length c, .func (.func 81) #[] #[.pointer (some ⟨b, 0, none⟩)]] w fun e w' => ∃ r : Int, e = .returned (.int .i64 r) ∧ decide (0 ≤ r) = (vxs X).any (fun r => whereM r (px, py) == 2) ∧ LaterOf w w' := by
  have hlen := h.len
  have H := Lib.hid (And.intro h (And.intro hs (And.intro q0 q1)))
  clear h hs q0 q1
  go_enter Try.func107, Try.ntmps107
  go_wp2_with fail
  go_loopg [8] X.length (fun gas s8 wr => ∃ k : Nat, k ≤ X.length ∧ X.length - k ≤ gas ∧ s8 = .int .i64 k ∧ LaterOf w wr ∧ (vxs X).any (fun r => whereM r (px, py) == 2) = ((vxs X).drop k).any (fun r => whereM r (px, py) == 2))
  case atStart => exact ⟨0, by omega, by omega, rfl, by (repeat (first | (with_reducible exact LaterOf.refl _) | (with_reducible refine LaterOf.alloc ?_ _) | (with_reducible refine LaterOf.drew ?_) | (with_reducible refine LaterOf.drewN ?_ _) | (with_reducible refine LaterOf.later ?_ _) | (with_reducible refine LaterOf.setCell ?_ (by first | exact Nat.le_refl _ | (simp; done) | omega | (simp; omega)) _))), by rw [List.drop_zero]⟩
  case round =>
    obtain ⟨k, hk, hgas, rfl, ⟨z, rfl⟩, hany⟩ := hrel
    by_cases hlt : k < X.length
    · have hx0 := H.out.1.of (w' := z.wd) (LaterOf.since ⟨z, rfl⟩)
      obtain ⟨g, off, rfl, hr⟩ := hx0.row.at_ (by omega)
      have hO1 := hr.there
      have k0 := hr.g0 k hlt
      have C := forbFn_any X[k].A X[k].c X[k].xs b px py z.wd (hx0.all _ (List.getElem_mem hlt)).row (H.out.2.1 _ (List.getElem_mem hlt)) (by rw [Later.cell]; exact H.out.2.2.1) (by rw [Later.cell]; exact H.out.2.2.2) inferInstance
      have hd : (vxs X).drop k = X[k].xs :: (vxs X).drop (k + 1) := by
        rw [List.drop_eq_getElem_cons (by rw [vxs_len]; exact hlt), vxs_at hlt]
      rw [hd, List.any_cons] at hany
      generalize X[k] = x at *
      generalize (whereM x.xs (px, py) == 2) = t at *
      clear hr hx0 hd
      cases t
      · rw [Bool.false_or] at hany
        have HA := Lib.hid hany
        clear hany
        go_wp2_with fail
        refine C.calls.mono ?_
        rintro e _ ⟨rfl, x1, rfl⟩
        go_wp2_with fail
        go_roundg (X.length - (k + 1))
        case measure => omega
        case rel => exact ⟨k + 1, hlt, Nat.le_refl _, by go_num, by (repeat (first | (with_reducible exact LaterOf.refl _) | (with_reducible refine LaterOf.alloc ?_ _) | (with_reducible refine LaterOf.drew ?_) | (with_reducible refine LaterOf.drewN ?_ _) | (with_reducible refine LaterOf.later ?_ _) | (with_reducible refine LaterOf.setCell ?_ (by first | exact Nat.le_refl _ | (simp; done) | omega | (simp; omega)) _))), HA.out⟩
      · rw [Bool.true_or] at hany
        have HA := Lib.hid hany
        clear hany
        go_wp2_with fail
        refine C.calls.mono ?_
        rintro e _ ⟨rfl, x1, rfl⟩
        go_wp2_with fail
        go_returns
        exact ⟨(k : Int), rfl, by rw [HA.out]; simp, by (repeat (first | (with_reducible exact LaterOf.refl _) | (with_reducible refine LaterOf.alloc ?_ _) | (with_reducible refine LaterOf.drew ?_) | (with_reducible refine LaterOf.drewN ?_ _) | (with_reducible refine LaterOf.later ?_ _) | (with_reducible refine LaterOf.setCell ?_ (by first | exact Nat.le_refl _ | (simp; done) | omega | (simp; omega)) _)))⟩
    · have hkl : k = X.length := by omega
      rw [hkl, List.drop_of_length_le (by rw [vxs_len]; exact Nat.le_refl _)] at hany
      have HA := Lib.hid hany
      clear hany
      go_wp2_with fail
      go_returns
      exact ⟨-1, rfl, by rw [HA.out]; rfl, by (repeat (first | (with_reducible exact LaterOf.refl _) | (with_reducible refine LaterOf.alloc ?_ _) | (with_reducible refine LaterOf.drew ?_) | (with_reducible refine LaterOf.drewN ?_ _) | (with_reducible refine LaterOf.later ?_ _) | (with_reducible refine LaterOf.setCell ?_ (by first | exact Nat.le_refl _ | (simp; done) | omega | (simp; omega)) _)))⟩
set_option maxRecDepth 100000 in
set_option maxHeartbeats 4000000 in
theorem forbContains_any (A : Option Addr) (c : Nat) (X : List RgR) (b : Nat) (px py : Int) (w : World) (h : IsRings w A c X) (hs : ∀ x ∈ X, x.xs.length ≤ 100000) (q0 : w.cell? ⟨b, 0, none⟩ = some (.int .i64 px)) (q1 : w.cell? ⟨b, 1, none⟩ = some (.int .i64 py)) (hO : Nonempty (Old w b)) :
    Gives Try.prog 80 #[.slice A X.length c, .func (.func 81) #[] #[.pointer (some ⟨b, 0, none⟩)]] w (.bool ((vxs X).any (fun r => whereM r (px, py) == 2))) := by
  apply Gives.ret
  have C := forbIndex_any A c X b px py w h hs q0 q1 hO
  generalize (vxs X).any (fun r => whereM r (px, py) == 2) = t at *
  clear h hs q0 q1 hO
  go_enter Try.func80, Try.ntmps80
  go_wp2_with fail
  refine C.mono ?_
  rintro e _ ⟨r, rfl, hr, x1, rfl⟩
  go_wp2_with fail
  go_returns
  exact ⟨rfl, by (repeat (first | (with_reducible exact LaterOf.refl _) | (with_reducible refine LaterOf.alloc ?_ _) | (with_reducible refine LaterOf.drew ?_) | (with_reducible refine LaterOf.drewN ?_ _) | (with_reducible refine LaterOf.later ?_ _) | (with_reducible refine LaterOf.setCell ?_ (by first | exact Nat.le_refl _ | (simp; done) | omega | (simp; omega)) _)))⟩

set_option maxRecDepth 100000 in
set_option maxHeartbeats 4000000 in
theorem touchFn_any (A : Option Addr) (c : Nat) (r : List (Int × Int)) (b : Nat) (px py : Int) (w : World) (h : IsVecs w A c r) (hlen : r.length ≤ 100000) (q0 : w.cell? ⟨b, 0, none⟩ = some (.int .i64 px)) (q1 : w.cell? ⟨b, 1, none⟩ = some (.int .i64 py)) (hO : Nonempty (Old w b)) :
    Gives Try.prog 82 #[.slice A r.length c, .pointer (some ⟨b, 0, none⟩)] w (.bool (whereM r (px, py) == 1)) := by
  apply Gives.ret
  have W1 := where_any A c r px py w h hlen
  generalize whereM r (px, py) = t at *
  clear h hlen
  go_enter Try.func82, Try.ntmps82
  go_wp2_with fail
  refine W1.calls.mono ?_
  rintro e _ ⟨rfl, x1, rfl⟩
  go_wp2_with fail
  go_returns
  exact ⟨by first | rfl | simp, by (repeat (first | (with_reducible exact LaterOf.refl _) | (with_reducible refine LaterOf.alloc ?_ _) | (with_reducible refine LaterOf.drew ?_) | (with_reducible refine LaterOf.drewN ?_ _) | (with_reducible refine LaterOf.later ?_ _) | (with_reducible refine LaterOf.setCell ?_ (by first | exact Nat.le_refl _ | (simp; done) | omega | (simp; omega)) _)))⟩
set_option maxRecDepth 100000 in
set_option maxHeartbeats 4000000 in
theorem touchIndex_any (A : Option Addr) (c : Nat) (X : List RgR) (b : Nat) (px py : Int) (w : World) (h : IsRings w A c X) (hs : ∀ x ∈ X, x.xs.length ≤ 100000) (q0 : w.cell? ⟨b, 0, none⟩ = some (.int .i64 px)) (q1 : w.cell? ⟨b, 1, none⟩ = some (.int .i64 py)) (hO : Nonempty (Old w b)) :
    Calls Try.prog 107 #[.slice A X.length c, .func (.func 82) #[] #[.pointer (some ⟨b, 0, none⟩)]] w fun e w' => ∃ r : Int, e = .returned (.int .i64 r) ∧ decide (0 ≤ r) = (vxs X).any (fun r => whereM r (px, py) == 1) ∧ LaterOf w w' := by
  have hlen := h.len
  have H := Lib.hid (And.intro h (And.intro hs (And.intro q0 q1)))
  clear h hs q0 q1
  go_enter Try.func107, Try.ntmps107
  go_wp2_with fail
  go_loopg [8] X.length (fun gas s8 wr => ∃ k : Nat, k ≤ X.length ∧ X.length - k ≤ gas ∧ s8 = .int .i64 k ∧ LaterOf w wr ∧ (vxs X).any (fun r => whereM r (px, py) == 1) = ((vxs X).drop k).any (fun r => whereM r (px, py) == 1))
  case atStart => exact ⟨0, by omega, by omega, rfl, by (repeat (first | (with_reducible exact LaterOf.refl _) | (with_reducible refine LaterOf.alloc ?_ _) | (with_reducible refine LaterOf.drew ?_) | (with_reducible refine LaterOf.drewN ?_ _) | (with_reducible refine LaterOf.later ?_ _) | (with_reducible refine LaterOf.setCell ?_ (by first | exact Nat.le_refl _ | (simp; done) | omega | (simp; omega)) _))), by rw [List.drop_zero]⟩
  case round =>
    obtain ⟨k, hk, hgas, rfl, ⟨z, rfl⟩, hany⟩ := hrel
    by_cases hlt : k < X.length
    · have hx0 := H.out.1.of (w' := z.wd) (LaterOf.since ⟨z, rfl⟩)
      obtain ⟨g, off, rfl, hr⟩ := hx0.row.at_ (by omega)
      have hO1 := hr.there
      have k0 := hr.g0 k hlt
      have C := touchFn_any X[k].A X[k].c X[k].xs b px py z.wd (hx0.all _ (List.getElem_mem hlt)).row (H.out.2.1 _ (List.getElem_mem hlt)) (by rw [Later.cell]; exact H.out.2.2.1) (by rw [Later.cell]; exact H.out.2.2.2) inferInstance
      have hd : (vxs X).drop k = X[k].xs :: (vxs X).drop (k + 1) := by
        rw [List.drop_eq_getElem_cons (by rw [vxs_len]; exact hlt), vxs_at hlt]
      rw [hd, List.any_cons] at hany
      generalize X[k] = x at *
      generalize (whereM x.xs (px, py) == 1) = t at *
      clear hr hx0 hd
      cases t
      · rw [Bool.false_or] at hany
        have HA := Lib.hid hany
        clear hany
        go_wp2_with fail
        refine C.calls.mono ?_
        rintro e _ ⟨rfl, x1, rfl⟩
        go_wp2_with fail
        go_roundg (X.length - (k + 1))
        case measure => omega
        case rel => exact ⟨k + 1, hlt, Nat.le_refl _, by go_num, by (repeat (first | (with_reducible exact LaterOf.refl _) | (with_reducible refine LaterOf.alloc ?_ _) | (with_reducible refine LaterOf.drew ?_) | (with_reducible refine LaterOf.drewN ?_ _) | (with_reducible refine LaterOf.later ?_ _) | (with_reducible refine LaterOf.setCell ?_ (by first | exact Nat.le_refl _ | (simp; done) | omega | (simp; omega)) _))), HA.out⟩
      · rw [Bool.true_or] at hany
        have HA := Lib.hid hany
        clear hany
        go_wp2_with fail
        refine C.calls.mono ?_
        rintro e _ ⟨rfl, x1, rfl⟩
        go_wp2_with fail
        go_returns
        exact ⟨(k : Int), rfl, by rw [HA.out]; simp, by (repeat (first | (with_reducible exact LaterOf.refl _) | (with_reducible refine LaterOf.alloc ?_ _) | (with_reducible refine LaterOf.drew ?_) | (with_reducible refine LaterOf.drewN ?_ _) | (with_reducible refine LaterOf.later ?_ _) | (with_reducible refine LaterOf.setCell ?_ (by first | exact Nat.le_refl _ | (simp; done) | omega | (simp; omega)) _)))⟩
    · have hkl : k = X.length := by omega
      rw [hkl, List.drop_of_length_le (by rw [vxs_len]; exact Nat.le_refl _)] at hany
      have HA := Lib.hid hany
      clear hany
      go_wp2_with fail
      go_returns
      exact ⟨-1, rfl, by rw [HA.out]; rfl, by (repeat (first | (with_reducible exact LaterOf.refl _) | (with_reducible refine LaterOf.alloc ?_ _) | (with_reducible refine LaterOf.drew ?_) | (with_reducible refine LaterOf.drewN ?_ _) | (with_reducible refine LaterOf.later ?_ _) | (with_reducible refine LaterOf.setCell ?_ (by first | exact Nat.le_refl _ | (simp; done) | omega | (simp; omega)) _)))⟩
set_option maxRecDepth 100000 in
set_option maxHeartbeats 4000000 in
theorem touchContains_any (A : Option Addr) (c : Nat) (X : List RgR) (b : Nat) (px py : Int) (w : World) (h : IsRings w A c X) (hs : ∀ x ∈ X, x.xs.length ≤ 100000) (q0 : w.cell? ⟨b, 0, none⟩ = some (.int .i64 px)) (q1 : w.cell? ⟨b, 1, none⟩ = some (.int .i64 py)) (hO : Nonempty (Old w b)) :
    Gives Try.prog 80 #[.slice A X.length c, .func (.func 82) #[] #[.pointer (some ⟨b, 0, none⟩)]] w (.bool ((vxs X).any (fun r => whereM r (px, py) == 1))) := by
  apply Gives.ret
  have C := touchIndex_any A c X b px py w h hs q0 q1 hO
  generalize (vxs X).any (fun r => whereM r (px, py) == 1) = t at *
  clear h hs q0 q1 hO
  go_enter Try.func80, Try.ntmps80
  go_wp2_with fail
  refine C.mono ?_
  rintro e _ ⟨r, rfl, hr, x1, rfl⟩
  go_wp2_with fail
  go_returns
  exact ⟨rfl, by (repeat (first | (with_reducible exact LaterOf.refl _) | (with_reducible refine LaterOf.alloc ?_ _) | (with_reducible refine LaterOf.drew ?_) | (with_reducible refine LaterOf.drewN ?_ _) | (with_reducible refine LaterOf.later ?_ _) | (with_reducible refine LaterOf.setCell ?_ (by first | exact Nat.le_refl _ | (simp; done) | omega | (simp; omega)) _)))⟩

def forbB (S : List (List Pt)) (v : Pt) : Bool := S.any (fun r => whereM r v == 2)
def touchB (S : List (List Pt)) (v : Pt) : Bool := !forbB S v && S.any (fun r => whereM r v == 1)
set_option maxRecDepth 100000 in
set_option maxHeartbeats 4000000 in
theorem forbidden_any (A : Option Addr) (c : Nat) (X : List RgR) (px py : Int) (w : World) (h : IsRings w A c X) (hs : ∀ x ∈ X, x.xs.length ≤ 100000) :
    Gives Try.prog 40 #[.slice A X.length c, vv px py] w (.bool (forbB (vxs X) (px, py))) := by
  apply Gives.ret
  have C := fun W (hW : SinceOf w W) (b : Nat) => forbContains_any A c X b px py W (h.of hW) hs
  rw [show (vxs X).any (fun r => whereM r (px, py) == 2) = forbB (vxs X) (px, py) from rfl] at C
  generalize forbB (vxs X) (px, py) = t at *
  clear h hs
  go_enter Try.func40, Try.ntmps40
  go_wp2_with fail
  refine (C _ (by (repeat (first | (with_reducible exact SinceOf.refl _) | (with_reducible assumption) | (with_reducible refine SinceOf.alloc ?_ _) | (with_reducible refine SinceOf.drew ?_) | (with_reducible refine SinceOf.drewN ?_ _) | (with_reducible refine SinceOf.later ?_ _) | (with_reducible refine SinceOf.further ?_ _) | (with_reducible refine SinceOf.setCell ?_ (by first | exact Nat.le_refl _ | (simp; done) | omega | (simp; omega)) _)))) _ (by simp [go_sem]) (by simp [go_sem]) inferInstance).calls.mono ?_
  rintro e _ ⟨rfl, x1, rfl⟩
  go_wp2_with fail
  go_returns
  exact ⟨rfl, by (repeat (first | (with_reducible exact LaterOf.refl _) | (with_reducible refine LaterOf.alloc ?_ _) | (with_reducible refine LaterOf.drew ?_) | (with_reducible refine LaterOf.drewN ?_ _) | (with_reducible refine LaterOf.later ?_ _) | (with_reducible refine LaterOf.setCell ?_ (by first | exact Nat.le_refl _ | (simp; done) | omega | (simp; omega)) _)))⟩
set_option maxRecDepth 100000 in
set_option maxHeartbeats 4000000 in
theorem touches_any (A : Option Addr) (c : Nat) (X : List RgR) (px py : Int) (w : World) (h : IsRings w A c X) (hs : ∀ x ∈ X, x.xs.length ≤ 100000) :
    Gives Try.prog 44 #[.slice A X.length c, vv px py] w (.bool (touchB (vxs X) (px, py))) := by
  apply Gives.ret
  have F := fun W (hW : SinceOf w W) => forbidden_any A c X px py W (h.of hW) hs
  have C := fun W (hW : SinceOf w W) (b : Nat) => touchContains_any A c X b px py W (h.of hW) hs
  unfold touchB
  generalize forbB (vxs X) (px, py) = f at *
  generalize (vxs X).any (fun r => whereM r (px, py) == 1) = t at *
  clear h hs
  cases f
  · go_enter Try.func44, Try.ntmps44
    go_wp2_with fail
    refine (F _ (by (repeat (first | (with_reducible exact SinceOf.refl _) | (with_reducible assumption) | (with_reducible refine SinceOf.alloc ?_ _) | (with_reducible refine SinceOf.drew ?_) | (with_reducible refine SinceOf.drewN ?_ _) | (with_reducible refine SinceOf.later ?_ _) | (with_reducible refine SinceOf.further ?_ _) | (with_reducible refine SinceOf.setCell ?_ (by first | exact Nat.le_refl _ | (simp; done) | omega | (simp; omega)) _))))).calls.mono ?_
    rintro e _ ⟨rfl, x1, rfl⟩
    go_wp2_with fail
    refine (C _ (by (repeat (first | (with_reducible exact SinceOf.refl _) | (with_reducible assumption) | (with_reducible refine SinceOf.alloc ?_ _) | (with_reducible refine SinceOf.drew ?_) | (with_reducible refine SinceOf.drewN ?_ _) | (with_reducible refine SinceOf.later ?_ _) | (with_reducible refine SinceOf.further ?_ _) | (with_reducible refine SinceOf.setCell ?_ (by first | exact Nat.le_refl _ | (simp; done) | omega | (simp; omega)) _)))) _ (by simp [go_sem]) (by simp [go_sem]) inferInstance).calls.mono ?_
    rintro e _ ⟨rfl, x2, rfl⟩
    go_wp2_with fail
    go_returns
    exact ⟨by first | rfl | simp, by (repeat (first | (with_reducible exact LaterOf.refl _) | (with_reducible refine LaterOf.alloc ?_ _) | (with_reducible refine LaterOf.drew ?_) | (with_reducible refine LaterOf.drewN ?_ _) | (with_reducible refine LaterOf.later ?_ _) | (with_reducible refine LaterOf.setCell ?_ (by first | exact Nat.le_refl _ | (simp; done) | omega | (simp; omega)) _)))⟩
  · go_enter Try.func44, Try.ntmps44
    go_wp2_with fail
    refine (F _ (by (repeat (first | (with_reducible exact SinceOf.refl _) | (with_reducible assumption) | (with_reducible refine SinceOf.alloc ?_ _) | (with_reducible refine SinceOf.drew ?_) | (with_reducible refine SinceOf.drewN ?_ _) | (with_reducible refine SinceOf.later ?_ _) | (with_reducible refine SinceOf.further ?_ _) | (with_reducible refine SinceOf.setCell ?_ (by first | exact Nat.le_refl _ | (simp; done) | omega | (simp; omega)) _))))).calls.mono ?_
    rintro e _ ⟨rfl, x1, rfl⟩
    go_wp2_with fail
    go_returns
    exact ⟨by first | rfl | simp, by (repeat (first | (with_reducible exact LaterOf.refl _) | (with_reducible refine LaterOf.alloc ?_ _) | (with_reducible refine LaterOf.drew ?_) | (with_reducible refine LaterOf.drewN ?_ _) | (with_reducible refine LaterOf.later ?_ _) | (with_reducible refine LaterOf.setCell ?_ (by first | exact Nat.le_refl _ | (simp; done) | omega | (simp; omega)) _)))⟩
theorem LaterOf.trans {a b c : World} (h : LaterOf a b) (k : LaterOf b c) : LaterOf a c := by
  obtain ⟨x, rfl⟩ := h; obtain ⟨y, rfl⟩ := k; exact ⟨x.trans y, rfl⟩

set_option maxRecDepth 100000 in
set_option maxHeartbeats 8000000 in
theorem refForbidden_any (A : Option Addr) (c : Nat) (X : List RgR) (px py : Int) (w : World) (h : IsRings w A c X) (hs : ∀ x ∈ X, x.xs.length ≤ 100000) :
    Gives Try.prog 47 #[.slice A X.length c, vv px py] w (.bool (forbB (vxs X) (px, py))) := by
  apply Gives.ret
  have hlen := h.len
  have H := Lib.hid (And.intro h hs)
  clear h hs
  obtain ⟨res, hres⟩ : ∃ res, res = forbB (vxs X) (px, py) := ⟨_, rfl⟩
  rw [← hres]
  have HR := Lib.hid hres
  clear hres
  go_enter Try.func47, Try.ntmps47
  go_wp2_with fail
  go_loopg [5] X.length (fun gas s5 wr => ∃ k : Nat, k ≤ X.length ∧ X.length - k ≤ gas ∧ s5 = .int .i64 k ∧ LaterOf (w.alloc (.cells #[.int .i64 px, .int .i64 py] 37)) wr ∧ (vxs X).any (fun r => whereM r (px, py) == 2) = ((vxs X).drop k).any (fun r => whereM r (px, py) == 2))
  case atStart => exact ⟨0, by omega, by omega, by go_num, by (repeat (first | (with_reducible exact LaterOf.refl _) | (with_reducible refine LaterOf.alloc ?_ _) | (with_reducible refine LaterOf.drew ?_) | (with_reducible refine LaterOf.drewN ?_ _) | (with_reducible refine LaterOf.later ?_ _) | (with_reducible refine LaterOf.setCell ?_ (by first | exact Nat.le_refl _ | (simp; done) | omega | (simp; omega)) _))), by rw [List.drop_zero]⟩
  case round =>
    obtain ⟨k, hk, hgas, rfl, ⟨z, rfl⟩, hany⟩ := hrel
    have hzs := z.size
    simp only [World.size_alloc] at hzs
    have hsz : SinceOf w z.wd := SinceOf.later (SinceOf.alloc (SinceOf.refl w) _) z
    have hlz : LaterOf w z.wd := LaterOf.later (LaterOf.alloc (LaterOf.refl w) _) z
    have q0 : z.wd.cell? ⟨w.heap.size, 0, none⟩ = some (.int .i64 px) := by simp [go_sem]
    have q1 : z.wd.cell? ⟨w.heap.size, 1, none⟩ = some (.int .i64 py) := by simp [go_sem]
    have hOb : Nonempty (Old z.wd w.heap.size) := ⟨⟨by omega⟩⟩
    by_cases hlt : k < X.length
    · have hx0 := H.out.1.of (w' := z.wd) hsz
      obtain ⟨g, off, rfl, hr⟩ := hx0.row.at_ (by omega)
      have hO1 := hr.there
      have k0 := hr.g0 k hlt
      have hrx := hx0.all _ (List.getElem_mem hlt)
      have hll := H.out.2 _ (List.getElem_mem hlt)
      have hd : (vxs X).drop k = X[k].xs :: (vxs X).drop (k + 1) := by
        rw [List.drop_eq_getElem_cons (by rw [vxs_len]; exact hlt), vxs_at hlt]
      rw [hd, List.any_cons] at hany
      generalize X[k] = x at *
      have C := fun W (hW : SinceOf z.wd W) => refWhere_any x.A x.c x.xs px py W (hrx.of hW).row hll
      generalize whereM x.xs (px, py) = t at *
      have HA := Lib.hid (And.intro hany hlz)
      clear hany hlz hsz hr hx0 hd hrx hll
      by_cases ht : t = 2
      · have gt : (t == 2) = true := by simp [ht]
        go_wp2_with fail
        refine region_later (by kernel_rfl) (by kernel_rfl) ?_
        repeat (go_big_quiet_step ((with_reducible refine Gives.later (C _ (by (repeat (first | (with_reducible exact SinceOf.refl _) | (with_reducible assumption) | (with_reducible refine SinceOf.alloc ?_ _) | (with_reducible refine SinceOf.drew ?_) | (with_reducible refine SinceOf.drewN ?_ _) | (with_reducible refine SinceOf.later ?_ _) | (with_reducible refine SinceOf.further ?_ _) | (with_reducible refine SinceOf.setCell ?_ (by first | exact Nat.le_refl _ | (simp; done) | omega | (simp; omega)) _))))))))
        refine wpQuiet_nil ?_
        rintro _ ⟨z4, rfl⟩
        have hyes : res = true := by rw [HR.out]; unfold forbB; rw [HA.out.1, gt, Bool.true_or]
        subst hyes
        clear HR ht
        go_wp2_with fail
        go_returns
        exact ⟨rfl, LaterOf.trans HA.out.2 (by (repeat (first | (with_reducible exact LaterOf.refl _) | (with_reducible refine LaterOf.alloc ?_ _) | (with_reducible refine LaterOf.drew ?_) | (with_reducible refine LaterOf.drewN ?_ _) | (with_reducible refine LaterOf.later ?_ _) | (with_reducible refine LaterOf.setCell ?_ (by first | exact Nat.le_refl _ | (simp; done) | omega | (simp; omega)) _))))⟩
      · have gt : (t == 2) = false := by simp [ht]
        have HB := Lib.hid (show (vxs X).any (fun r => whereM r (px, py) == 2) = ((vxs X).drop (k + 1)).any (fun r => whereM r (px, py) == 2) by rw [HA.out.1, gt, Bool.false_or])
        clear ht
        go_wp2_with fail
        refine region_later (by kernel_rfl) (by kernel_rfl) ?_
        repeat (go_big_quiet_step ((with_reducible refine Gives.later (C _ (by (repeat (first | (with_reducible exact SinceOf.refl _) | (with_reducible assumption) | (with_reducible refine SinceOf.alloc ?_ _) | (with_reducible refine SinceOf.drew ?_) | (with_reducible refine SinceOf.drewN ?_ _) | (with_reducible refine SinceOf.later ?_ _) | (with_reducible refine SinceOf.further ?_ _) | (with_reducible refine SinceOf.setCell ?_ (by first | exact Nat.le_refl _ | (simp; done) | omega | (simp; omega)) _))))))))
        refine wpQuiet_nil ?_
        rintro _ ⟨z4, rfl⟩
        go_wp2_with fail
        go_roundg (X.length - (k + 1))
        case measure => omega
        case rel => exact ⟨k + 1, hlt, Nat.le_refl _, by go_num, LaterOf.later ⟨z, rfl⟩ z4, HB.out⟩
    · have hkl : k = X.length := by omega
      rw [hkl, List.drop_of_length_le (by rw [vxs_len]; exact Nat.le_refl _)] at hany
      have hno : res = false := by rw [HR.out]; unfold forbB; rw [hany]; rfl
      subst hno
      have HL := Lib.hid hlz
      clear hany hlz hsz HR
      go_wp2_with fail
      go_returns
      exact ⟨rfl, HL.out⟩

set_option maxRecDepth 100000 in
set_option maxHeartbeats 8000000 in
theorem refTouches_any (A : Option Addr) (c : Nat) (X : List RgR) (px py : Int) (w : World) (h : IsRings w A c X) (hs : ∀ x ∈ X, x.xs.length ≤ 100000) :
    Gives Try.prog 48 #[.slice A X.length c, vv px py] w (.bool (touchB (vxs X) (px, py))) := by
  apply Gives.ret
  have hlen := h.len
  have FB := fun W (hW : SinceOf w W) => refForbidden_any A c X px py W (h.of hW) hs
  have H := Lib.hid (And.intro h hs)
  clear h hs
  obtain ⟨res, hres⟩ : ∃ res, res = touchB (vxs X) (px, py) := ⟨_, rfl⟩
  rw [← hres]
  have HR := Lib.hid hres
  clear hres
  go_enter Try.func48, Try.ntmps48
  go_wp2_with fail
  go_loopg [5] X.length (fun gas s5 wr => ∃ k : Nat, k ≤ X.length ∧ X.length - k ≤ gas ∧ s5 = .int .i64 k ∧ LaterOf (w.alloc (.cells #[.int .i64 px, .int .i64 py] 37)) wr ∧ (vxs X).any (fun r => whereM r (px, py) == 1) = ((vxs X).drop k).any (fun r => whereM r (px, py) == 1))
  case atStart => exact ⟨0, by omega, by omega, by go_num, by (repeat (first | (with_reducible exact LaterOf.refl _) | (with_reducible refine LaterOf.alloc ?_ _) | (with_reducible refine LaterOf.drew ?_) | (with_reducible refine LaterOf.drewN ?_ _) | (with_reducible refine LaterOf.later ?_ _) | (with_reducible refine LaterOf.setCell ?_ (by first | exact Nat.le_refl _ | (simp; done) | omega | (simp; omega)) _))), by rw [List.drop_zero]⟩
  case round =>
    obtain ⟨k, hk, hgas, rfl, ⟨z, rfl⟩, hany⟩ := hrel
    have hzs := z.size
    simp only [World.size_alloc] at hzs
    have hsz : SinceOf w z.wd := SinceOf.later (SinceOf.alloc (SinceOf.refl w) _) z
    have hlz : LaterOf w z.wd := LaterOf.later (LaterOf.alloc (LaterOf.refl w) _) z
    have q0 : z.wd.cell? ⟨w.heap.size, 0, none⟩ = some (.int .i64 px) := by simp [go_sem]
    have q1 : z.wd.cell? ⟨w.heap.size, 1, none⟩ = some (.int .i64 py) := by simp [go_sem]
    have hOb : Nonempty (Old z.wd w.heap.size) := ⟨⟨by omega⟩⟩
    by_cases hlt : k < X.length
    · have hx0 := H.out.1.of (w' := z.wd) hsz
      obtain ⟨g, off, rfl, hr⟩ := hx0.row.at_ (by omega)
      have hO1 := hr.there
      have k0 := hr.g0 k hlt
      have hrx := hx0.all _ (List.getElem_mem hlt)
      have hll := H.out.2 _ (List.getElem_mem hlt)
      have hd : (vxs X).drop k = X[k].xs :: (vxs X).drop (k + 1) := by
        rw [List.drop_eq_getElem_cons (by rw [vxs_len]; exact hlt), vxs_at hlt]
      rw [hd, List.any_cons] at hany
      generalize X[k] = x at *
      have C := fun W (hW : SinceOf z.wd W) => refWhere_any x.A x.c x.xs px py W (hrx.of hW).row hll
      generalize whereM x.xs (px, py) = t at *
      have HA := Lib.hid (And.intro hany hlz)
      clear hany hlz hsz hr hx0 hd hrx hll
      by_cases ht : t = 1
      · have gt : (t == 1) = true := by simp [ht]
        go_wp2_with fail
        refine region_later (by kernel_rfl) (by kernel_rfl) ?_
        repeat (go_big_quiet_step ((with_reducible refine Gives.later (C _ (by (repeat (first | (with_reducible exact SinceOf.refl _) | (with_reducible assumption) | (with_reducible refine SinceOf.alloc ?_ _) | (with_reducible refine SinceOf.drew ?_) | (with_reducible refine SinceOf.drewN ?_ _) | (with_reducible refine SinceOf.later ?_ _) | (with_reducible refine SinceOf.further ?_ _) | (with_reducible refine SinceOf.setCell ?_ (by first | exact Nat.le_refl _ | (simp; done) | omega | (simp; omega)) _))))))))
        refine wpQuiet_nil ?_
        rintro _ ⟨z4, rfl⟩
        have hyes : res = !forbB (vxs X) (px, py) := by rw [HR.out]; unfold touchB; rw [HA.out.1, gt, Bool.true_or, Bool.and_true]
        obtain ⟨fb, hfb⟩ : ∃ fb, fb = forbB (vxs X) (px, py) := ⟨_, rfl⟩
        rw [← hfb] at hyes
        subst hyes
        clear HR ht
        have q0' : z4.wd.cell? ⟨w.heap.size, 0, none⟩ = some (.int .i64 px) := by rw [Later.cell]; exact q0
        have q1' : z4.wd.cell? ⟨w.heap.size, 1, none⟩ = some (.int .i64 py) := by rw [Later.cell]; exact q1
        have hOb' : Nonempty (Old z4.wd w.heap.size) := inferInstance
        have F4 := FB z4.wd (LaterOf.since (LaterOf.trans HA.out.2 (by (repeat (first | (with_reducible exact LaterOf.refl _) | (with_reducible refine LaterOf.alloc ?_ _) | (with_reducible refine LaterOf.drew ?_) | (with_reducible refine LaterOf.drewN ?_ _) | (with_reducible refine LaterOf.later ?_ _) | (with_reducible refine LaterOf.setCell ?_ (by first | exact Nat.le_refl _ | (simp; done) | omega | (simp; omega)) _))))))
        rw [← hfb] at F4
        clear C FB q0 q1 hfb
        go_wp2_with fail
        refine F4.calls.mono ?_
        rintro e _ ⟨rfl, z5, rfl⟩
        go_wp2_with fail
        go_returns
        exact ⟨by first | rfl | simp, LaterOf.trans HA.out.2 (by (repeat (first | (with_reducible exact LaterOf.refl _) | (with_reducible refine LaterOf.alloc ?_ _) | (with_reducible refine LaterOf.drew ?_) | (with_reducible refine LaterOf.drewN ?_ _) | (with_reducible refine LaterOf.later ?_ _) | (with_reducible refine LaterOf.setCell ?_ (by first | exact Nat.le_refl _ | (simp; done) | omega | (simp; omega)) _))))⟩
      · have gt : (t == 1) = false := by simp [ht]
        have HB := Lib.hid (show (vxs X).any (fun r => whereM r (px, py) == 1) = ((vxs X).drop (k + 1)).any (fun r => whereM r (px, py) == 1) by rw [HA.out.1, gt, Bool.false_or])
        clear ht
        go_wp2_with fail
        refine region_later (by kernel_rfl) (by kernel_rfl) ?_
        repeat (go_big_quiet_step ((with_reducible refine Gives.later (C _ (by (repeat (first | (with_reducible exact SinceOf.refl _) | (with_reducible assumption) | (with_reducible refine SinceOf.alloc ?_ _) | (with_reducible refine SinceOf.drew ?_) | (with_reducible refine SinceOf.drewN ?_ _) | (with_reducible refine SinceOf.later ?_ _) | (with_reducible refine SinceOf.further ?_ _) | (with_reducible refine SinceOf.setCell ?_ (by first | exact Nat.le_refl _ | (simp; done) | omega | (simp; omega)) _))))))))
        refine wpQuiet_nil ?_
        rintro _ ⟨z4, rfl⟩
        go_wp2_with fail
        go_roundg (X.length - (k + 1))
        case measure => omega
        case rel => exact ⟨k + 1, hlt, Nat.le_refl _, by go_num, LaterOf.later ⟨z, rfl⟩ z4, HB.out⟩
    · have hkl : k = X.length := by omega
      rw [hkl, List.drop_of_length_le (by rw [vxs_len]; exact Nat.le_refl _)] at hany
      have hno : res = false := by rw [HR.out]; unfold touchB; rw [hany]; simp
      subst hno
      have HL := Lib.hid hlz
      clear hany hlz hsz HR
      go_wp2_with fail
      go_returns
      exact ⟨rfl, HL.out⟩
end Go.Proofs.Ytbienlhofkfdpaa
