/- Layer 10: Diameter2 of the program. -/
import Derived.Test.YticmfmcflikneaaHull9
import Derived.Test.YticmfmcflikneaaHull2
import Derived.BigQuiet
namespace Go.Proofs.Yticmfmcflikneaa
open Go.RowKit Go.Sort
set_option linter.unusedVariables false
attribute [local go_sem ↓] Go.wp_at_zero Go.wp_at_succ

def d2 (a b : Pt) : Int := dotI (wsub a.1 b.1) (wsub a.2 b.2) (wsub a.1 b.1) (wsub a.2 b.2)
def diaRow (a : Pt) (m : Int) (l : List Pt) : Int := l.foldl (fun m b => max m (d2 a b)) m
def diaTo (r : List Pt) (m : Int) (l : List Pt) : Int := l.foldl (fun m a => diaRow a m r) m
def dia (r : List Pt) : Int := diaTo r 0 r
set_option maxRecDepth 100000 in
set_option maxHeartbeats 8000000 in
theorem diameter_any (A : Option Addr) (c : Nat) (r : List (Int × Int)) (w : World) (h : IsVecs w A c r) (hlen : r.length < 4611686018427387904) :
    Calls Try.prog 34 #[.slice A r.length c] w fun e w' => e = .returned (.tuple #[.int .i64 (if convexB r then dia r else 0), .int .i64 (if convexB r then 0 else 11)]) ∧ SinceOf w w' := by
  have C := fun W (hW : SinceOf w W) => convex_any A c r W (h.of hW) hlen
  have H := Lib.hid h
  clear h
  cases hv : convexB r
  · rw [hv] at C
    go_enter Try.func34, Try.ntmps34
    go_wp2_with fail
    refine (C _ (by (repeat (first | (with_reducible exact SinceOf.refl _) | (with_reducible assumption) | (with_reducible refine SinceOf.alloc ?_ _) | (with_reducible refine SinceOf.drew ?_) | (with_reducible refine SinceOf.drewN ?_ _) | (with_reducible refine SinceOf.later ?_ _) | (with_reducible refine SinceOf.further ?_ _) | (with_reducible refine SinceOf.setCell ?_ (by first | exact Nat.le_refl _ | (simp; done) | omega | (simp; omega)) _))))).calls.mono ?_
    rintro e _ ⟨rfl, x0, rfl⟩
    go_wp2_with fail
    go_returns
    exact ⟨rfl, by (repeat (first | (with_reducible exact SinceOf.refl _) | (with_reducible assumption) | (with_reducible refine SinceOf.alloc ?_ _) | (with_reducible refine SinceOf.drew ?_) | (with_reducible refine SinceOf.drewN ?_ _) | (with_reducible refine SinceOf.later ?_ _) | (with_reducible refine SinceOf.further ?_ _) | (with_reducible refine SinceOf.setCell ?_ (by first | exact Nat.le_refl _ | (simp; done) | omega | (simp; omega)) _)))⟩
  · rw [hv] at C
    go_enter Try.func34, Try.ntmps34
    go_wp2_with fail
    refine (C _ (by (repeat (first | (with_reducible exact SinceOf.refl _) | (with_reducible assumption) | (with_reducible refine SinceOf.alloc ?_ _) | (with_reducible refine SinceOf.drew ?_) | (with_reducible refine SinceOf.drewN ?_ _) | (with_reducible refine SinceOf.later ?_ _) | (with_reducible refine SinceOf.further ?_ _) | (with_reducible refine SinceOf.setCell ?_ (by first | exact Nat.le_refl _ | (simp; done) | omega | (simp; omega)) _))))).calls.mono ?_
    rintro e _ ⟨rfl, x0, rfl⟩
    clear C
    go_wp2_with fail
    go_loopg [4, 15] r.length (fun gas s4 s15 wr => ∃ (i : Nat) (m : Int), i ≤ r.length ∧ r.length - i ≤ gas ∧ s4 = .int .i64 m ∧ s15 = .int .i64 i ∧ SinceOf w wr ∧ dia r = diaTo r m (r.drop i))
    case atStart => exact ⟨0, 0, by omega, by omega, rfl, rfl, by (repeat (first | (with_reducible exact SinceOf.refl _) | (with_reducible assumption) | (with_reducible refine SinceOf.alloc ?_ _) | (with_reducible refine SinceOf.drew ?_) | (with_reducible refine SinceOf.drewN ?_ _) | (with_reducible refine SinceOf.later ?_ _) | (with_reducible refine SinceOf.further ?_ _) | (with_reducible refine SinceOf.setCell ?_ (by first | exact Nat.le_refl _ | (simp; done) | omega | (simp; omega)) _))), rfl⟩
    case round =>
      obtain ⟨i, m, hi, hgas, rfl, rfl, ⟨v, rfl⟩, hall⟩ := hrel
      by_cases hlt : i < r.length
      · rw [List.drop_eq_getElem_cons hlt] at hall
        have hr0 := H.out.of (w' := v.wd) (by (repeat (first | (with_reducible exact SinceOf.refl _) | (with_reducible assumption) | (with_reducible refine SinceOf.alloc ?_ _) | (with_reducible refine SinceOf.drew ?_) | (with_reducible refine SinceOf.drewN ?_ _) | (with_reducible refine SinceOf.later ?_ _) | (with_reducible refine SinceOf.further ?_ _) | (with_reducible refine SinceOf.setCell ?_ (by first | exact Nat.le_refl _ | (simp; done) | omega | (simp; omega)) _))))
        obtain ⟨g, off, rfl, hr⟩ := hr0.at_ (by omega)
        have hO := hr.there
        have a0 := hr.v0 i hlt
        have a1 := hr.v1 i hlt
        generalize r[i] = a at *
        obtain ⟨ax, ay⟩ := a
        simp only at a0 a1
        have HA := Lib.hid hall
        clear hall hr hr0
        go_wp2_with fail
        go_loopg [4, 21] r.length (fun gas2 s4 s21 wr => ∃ (k : Nat) (m2 : Int), k ≤ r.length ∧ r.length - k ≤ gas2 ∧ s4 = .int .i64 m2 ∧ s21 = .int .i64 k ∧ SinceOf (v.wd.alloc (.cells #[.int .i64 ax, .int .i64 ay] 32)) wr ∧ diaRow (ax, ay) m r = diaRow (ax, ay) m2 (r.drop k))
        case atStart => exact ⟨0, m, by omega, by omega, rfl, rfl, by (repeat (first | (with_reducible exact SinceOf.refl _) | (with_reducible assumption) | (with_reducible refine SinceOf.alloc ?_ _) | (with_reducible refine SinceOf.drew ?_) | (with_reducible refine SinceOf.drewN ?_ _) | (with_reducible refine SinceOf.later ?_ _) | (with_reducible refine SinceOf.further ?_ _) | (with_reducible refine SinceOf.setCell ?_ (by first | exact Nat.le_refl _ | (simp; done) | omega | (simp; omega)) _))), rfl⟩
        case round =>
          obtain ⟨k, m2, hk, hgas2, rfl, rfl, ⟨v2, rfl⟩, hin⟩ := hrel
          by_cases hkl : k < r.length
          · rw [List.drop_eq_getElem_cons hkl] at hin
            have hr1 := H.out.of (w' := v.wd) (by (repeat (first | (with_reducible exact SinceOf.refl _) | (with_reducible assumption) | (with_reducible refine SinceOf.alloc ?_ _) | (with_reducible refine SinceOf.drew ?_) | (with_reducible refine SinceOf.drewN ?_ _) | (with_reducible refine SinceOf.later ?_ _) | (with_reducible refine SinceOf.further ?_ _) | (with_reducible refine SinceOf.setCell ?_ (by first | exact Nat.le_refl _ | (simp; done) | omega | (simp; omega)) _))))
            obtain ⟨g', off', he, hr⟩ := hr1.at_ (by omega)
            injection he with he
            injection he with hg1 ho1
            subst hg1 ho1
            have b0 := hr.v0 k hkl
            have b1 := hr.v1 k hkl
            generalize r[k] = b at *
            obtain ⟨bx, by_⟩ := b
            simp only at b0 b1
            have S1 := sub_any ax ay bx by_
            have D1 := dot_any (wsub ax bx) (wsub ay by_) (wsub ax bx) (wsub ay by_)
            have hd : d2 (ax, ay) (bx, by_) = dotI (wsub ax bx) (wsub ay by_) (wsub ax bx) (wsub ay by_) := rfl
            rw [← hd] at D1
            have HB := Lib.hid hin
            clear hin hr hr1 hd
            generalize wsub ax bx = dx at *
            generalize wsub ay by_ = dy at *
            go_wp2_with fail
            refine (S1 _).calls.mono ?_
            rintro e _ ⟨rfl, x1, rfl⟩
            go_wp2_with fail
            refine (D1 _).calls.mono ?_
            rintro e _ ⟨rfl, x2, rfl⟩
            go_wp2_with fail
            go_roundg (r.length - (k + 1))
            case measure => omega
            case rel => exact ⟨k + 1, max m2 (d2 (ax, ay) (bx, by_)), hkl, Nat.le_refl _, rfl, by go_num, by (repeat (first | (with_reducible exact SinceOf.refl _) | (with_reducible assumption) | (with_reducible refine SinceOf.alloc ?_ _) | (with_reducible refine SinceOf.drew ?_) | (with_reducible refine SinceOf.drewN ?_ _) | (with_reducible refine SinceOf.later ?_ _) | (with_reducible refine SinceOf.further ?_ _) | (with_reducible refine SinceOf.setCell ?_ (by first | exact Nat.le_refl _ | (simp; done) | omega | (simp; omega)) _))), by rw [HB.out]; rfl⟩
          · have hkl2 : k = r.length := by omega
            subst hkl2
            rw [List.drop_length] at hin
            have HB := Lib.hid hin
            clear hin
            go_wp2_with fail
            go_roundg (r.length - (i + 1))
            case measure => omega
            case rel => exact ⟨i + 1, m2, hlt, Nat.le_refl _, rfl, by go_num, by (repeat (first | (with_reducible exact SinceOf.refl _) | (with_reducible assumption) | (with_reducible refine SinceOf.alloc ?_ _) | (with_reducible refine SinceOf.drew ?_) | (with_reducible refine SinceOf.drewN ?_ _) | (with_reducible refine SinceOf.later ?_ _) | (with_reducible refine SinceOf.further ?_ _) | (with_reducible refine SinceOf.setCell ?_ (by first | exact Nat.le_refl _ | (simp; done) | omega | (simp; omega)) _))), by rw [HA.out, show diaTo r m ((ax, ay) :: r.drop (i + 1)) = diaTo r (diaRow (ax, ay) m r) (r.drop (i + 1)) from rfl, HB.out]; rfl⟩
      · have hil : i = r.length := by omega
        subst hil
        rw [List.drop_length] at hall
        have HA := Lib.hid hall
        clear hall
        go_wp2_with fail
        go_returns
        exact ⟨by rw [HA.out]; rfl, by (repeat (first | (with_reducible exact SinceOf.refl _) | (with_reducible assumption) | (with_reducible refine SinceOf.alloc ?_ _) | (with_reducible refine SinceOf.drew ?_) | (with_reducible refine SinceOf.drewN ?_ _) | (with_reducible refine SinceOf.later ?_ _) | (with_reducible refine SinceOf.further ?_ _) | (with_reducible refine SinceOf.setCell ?_ (by first | exact Nat.le_refl _ | (simp; done) | omega | (simp; omega)) _)))⟩
end Go.Proofs.Yticmfmcflikneaa
/- Layer 10: Farthest and Width of the program. -/
namespace Go.Proofs.Yticmfmcflikneaa
open Go.RowKit Go.Sort
set_option linter.unusedVariables false
attribute [local go_sem ↓] Go.wp_at_zero Go.wp_at_succ

/-- A variable of two numbers in a block of its own. -/
structure VarV (W : World) (g : Nat) (p : Pt) : Prop where
  c0 : W.cell? ⟨g, 0, none⟩ = some (.int .i64 p.1)
  c1 : W.cell? ⟨g, 1, none⟩ = some (.int .i64 p.2)
  f0 : W.frozen? ⟨g, 0, none⟩ = false
  f1 : W.frozen? ⟨g, 1, none⟩ = false
  lt : g < W.heap.size
theorem VarV.of {W W' : World} {g : Nat} {p : Pt} (h : VarV W g p) (hs : SinceOf W W') : VarV W' g p := by
  obtain ⟨z, rfl⟩ := hs
  have b := z.below.block g h.lt
  exact ⟨(World.cell?_of_block b).trans h.c0, (World.cell?_of_block b).trans h.c1, (World.frozen?_of_block b).trans h.f0, (World.frozen?_of_block b).trans h.f1, Nat.lt_of_lt_of_le h.lt z.size⟩
theorem VarV.put {W : World} {g : Nat} {p : Pt} (h : VarV W g p) (x y : Int) : VarV ((W.setCell ⟨g, 0, none⟩ (.int .i64 x)).setCell ⟨g, 1, none⟩ (.int .i64 y)) g (x, y) := by
  obtain ⟨c0, c1, f0, f1, lt⟩ := h
  exact ⟨by simp [go_sem, *], by simp [go_sem, *], by simp [go_sem, *], by simp [go_sem, *], by simpa using lt⟩
theorem VarV.other {W : World} {g k : Nat} {p : Pt} (h : VarV W g p) (hne : k ≠ g) (x y : Value) : VarV ((W.setCell ⟨k, 0, none⟩ x).setCell ⟨k, 1, none⟩ y) g p := by
  obtain ⟨c0, c1, f0, f1, lt⟩ := h
  exact ⟨by rw [World.cell?_setCell_other _ _ _ _ (by simp), World.cell?_setCell_other _ _ _ _ (by simp)]; exact c0, by rw [World.cell?_setCell_other _ _ _ _ (by simp), World.cell?_setCell_other _ _ _ _ (by simp)]; exact c1, by simpa using f0, by simpa using f1, by simpa using lt⟩
theorem VarV.new (W : World) (x y : Int) (t : TypeId) : VarV (W.alloc (.cells #[.int .i64 x, .int .i64 y] t)) W.heap.size (x, y) := ⟨by simp [go_sem], by simp [go_sem], by simp [go_sem], by simp [go_sem], by simp⟩
def farS (d b v : Pt) : Pt := if 0 < cmpi (dotI v.1 v.2 d.1 d.2) (dotI b.1 b.2 d.1 d.2) ∨ (cmpi (dotI v.1 v.2 d.1 d.2) (dotI b.1 b.2 d.1 d.2) = 0 ∧ vcmp v.1 v.2 b.1 b.2 < 0) then v else b
def farthest (r : List Pt) (d : Pt) : Pt := r.foldl (farS d) (at0 r 0)
def farRes (r : List Pt) (d : Pt) : Pt × Int := if convexB r then (if farB d then ((0, 0), 2) else (farthest r d, 0)) else ((0, 0), 11)
set_option maxRecDepth 100000 in
set_option maxHeartbeats 8000000 in
theorem farthest_any (A : Option Addr) (c : Nat) (r : List (Int × Int)) (dx dy : Int) (w : World) (h : IsVecs w A c r) (hlen : r.length < 4611686018427387904) :
    Calls Try.prog 29 #[.slice A r.length c, vv dx dy] w fun e w' => e = .returned (.tuple #[vv (farRes r (dx, dy)).1.1 (farRes r (dx, dy)).1.2, .int .i64 (farRes r (dx, dy)).2]) ∧ SinceOf w w' := by
  have C := fun W (hW : SinceOf w W) => convex_any A c r W (h.of hW) hlen
  have N := within_any dx dy 8000
  have hN : withinB dx dy 8000 = !farB (dx, dy) := by unfold farB; simp
  rw [hN] at N
  have H := Lib.hid h
  clear h hN
  unfold farRes
  cases hv : convexB r
  · rw [hv] at C
    go_enter Try.func29, Try.ntmps29
    go_wp2_with fail
    refine (C _ (by (repeat (first | (with_reducible exact SinceOf.refl _) | (with_reducible assumption) | (with_reducible refine SinceOf.alloc ?_ _) | (with_reducible refine SinceOf.drew ?_) | (with_reducible refine SinceOf.drewN ?_ _) | (with_reducible refine SinceOf.later ?_ _) | (with_reducible refine SinceOf.further ?_ _) | (with_reducible refine SinceOf.setCell ?_ (by first | exact Nat.le_refl _ | (simp; done) | omega | (simp; omega)) _))))).calls.mono ?_
    rintro e _ ⟨rfl, x0, rfl⟩
    go_wp2_with fail
    go_returns
    exact ⟨rfl, by (repeat (first | (with_reducible exact SinceOf.refl _) | (with_reducible assumption) | (with_reducible refine SinceOf.alloc ?_ _) | (with_reducible refine SinceOf.drew ?_) | (with_reducible refine SinceOf.drewN ?_ _) | (with_reducible refine SinceOf.later ?_ _) | (with_reducible refine SinceOf.further ?_ _) | (with_reducible refine SinceOf.setCell ?_ (by first | exact Nat.le_refl _ | (simp; done) | omega | (simp; omega)) _)))⟩
  · rw [hv] at C
    have h3 : 3 ≤ r.length := by
      unfold convexB at hv
      simp only [Bool.and_eq_true, decide_eq_true_eq] at hv
      omega
    cases hf : farB (dx, dy)
    · rw [hf] at N
      go_enter Try.func29, Try.ntmps29
      go_wp2_with fail
      refine (C _ (by (repeat (first | (with_reducible exact SinceOf.refl _) | (with_reducible assumption) | (with_reducible refine SinceOf.alloc ?_ _) | (with_reducible refine SinceOf.drew ?_) | (with_reducible refine SinceOf.drewN ?_ _) | (with_reducible refine SinceOf.later ?_ _) | (with_reducible refine SinceOf.further ?_ _) | (with_reducible refine SinceOf.setCell ?_ (by first | exact Nat.le_refl _ | (simp; done) | omega | (simp; omega)) _))))).calls.mono ?_
      rintro e _ ⟨rfl, x0, rfl⟩
      clear C
      go_wp2_with fail
      refine (N _).calls.mono ?_
      rintro e _ ⟨rfl, x1, rfl⟩
      have v1 : VarV x1.wd w.heap.size (dx, dy) := ((VarV.new w dx dy 32)).of (by (repeat (first | (with_reducible exact SinceOf.refl _) | (with_reducible assumption) | (with_reducible refine SinceOf.alloc ?_ _) | (with_reducible refine SinceOf.drew ?_) | (with_reducible refine SinceOf.drewN ?_ _) | (with_reducible refine SinceOf.later ?_ _) | (with_reducible refine SinceOf.further ?_ _) | (with_reducible refine SinceOf.setCell ?_ (by first | exact Nat.le_refl _ | (simp; done) | omega | (simp; omega)) _))))
      have v2 : VarV x1.wd (w.heap.size + 1) (0, 0) := by
        have q := VarV.new (w.alloc (.cells #[.int .i64 dx, .int .i64 dy] 32)) 0 0 32
        simp only [World.size_alloc] at q
        exact q.of (by (repeat (first | (with_reducible exact SinceOf.refl _) | (with_reducible assumption) | (with_reducible refine SinceOf.alloc ?_ _) | (with_reducible refine SinceOf.drew ?_) | (with_reducible refine SinceOf.drewN ?_ _) | (with_reducible refine SinceOf.later ?_ _) | (with_reducible refine SinceOf.further ?_ _) | (with_reducible refine SinceOf.setCell ?_ (by first | exact Nat.le_refl _ | (simp; done) | omega | (simp; omega)) _))))
      have hs : SinceOf w x1.wd := by (repeat (first | (with_reducible exact SinceOf.refl _) | (with_reducible assumption) | (with_reducible refine SinceOf.alloc ?_ _) | (with_reducible refine SinceOf.drew ?_) | (with_reducible refine SinceOf.drewN ?_ _) | (with_reducible refine SinceOf.later ?_ _) | (with_reducible refine SinceOf.further ?_ _) | (with_reducible refine SinceOf.setCell ?_ (by first | exact Nat.le_refl _ | (simp; done) | omega | (simp; omega)) _)))
      obtain ⟨v, hv1⟩ := hs
      rw [hv1] at v1 v2 ⊢
      clear hv1 N
      clear x1 x0
      have hr0 := H.out.of (w' := v.wd) (by (repeat (first | (with_reducible exact SinceOf.refl _) | (with_reducible assumption) | (with_reducible refine SinceOf.alloc ?_ _) | (with_reducible refine SinceOf.drew ?_) | (with_reducible refine SinceOf.drewN ?_ _) | (with_reducible refine SinceOf.later ?_ _) | (with_reducible refine SinceOf.further ?_ _) | (with_reducible refine SinceOf.setCell ?_ (by first | exact Nat.le_refl _ | (simp; done) | omega | (simp; omega)) _))))
      obtain ⟨g, off, rfl, hr⟩ := hr0.at_ (by omega)
      have hO := hr.there
      have a0 := hr.v0 0 (by omega)
      have a1 := hr.v1 0 (by omega)
      simp only [Nat.zero_mul, Nat.add_zero] at a0 a1
      have hbest : farthest r (dx, dy) = r.foldl (farS (dx, dy)) r[0] := by unfold farthest; rw [at0_eq (by omega)]
      generalize r[0] = b0 at *
      obtain ⟨bx, by_⟩ := b0
      simp only at a0 a1
      have hvs := v.size
      have hlt1 := v2.lt
      have HB := Lib.hid (And.intro hbest (And.intro v1 (And.intro v2 hr0)))
      have hcd0 := v1.c0
      have hcd1 := v1.c1
      have hOD : Nonempty (Old v.wd w.heap.size) := ⟨⟨by omega⟩⟩
      have hOR : Nonempty (Old v.wd (w.heap.size + 1)) := ⟨⟨by omega⟩⟩
      clear hbest v1 v2 hr0 hr
      simp only at hcd0 hcd1
      go_wp2_with fail
      generalize hgb : v.wd.heap.size = gb at *
      go_loopg [23] r.length (fun gas s23 wr => ∃ (i : Nat) (b : Pt), i ≤ r.length ∧ r.length - i ≤ gas ∧ s23 = .int .i64 i ∧ VarV wr w.heap.size (dx, dy) ∧ VarV wr (w.heap.size + 1) (0, 0) ∧ VarV wr gb b ∧ SinceOf w wr ∧ farthest r (dx, dy) = (r.drop i).foldl (farS (dx, dy)) b)
      case atStart =>
        refine ⟨0, (bx, by_), by omega, by omega, rfl, HB.out.2.1.of (by (repeat (first | (with_reducible exact SinceOf.refl _) | (with_reducible assumption) | (with_reducible refine SinceOf.alloc ?_ _) | (with_reducible refine SinceOf.drew ?_) | (with_reducible refine SinceOf.drewN ?_ _) | (with_reducible refine SinceOf.later ?_ _) | (with_reducible refine SinceOf.further ?_ _) | (with_reducible refine SinceOf.setCell ?_ (by first | exact Nat.le_refl _ | (simp; done) | omega | (simp; omega)) _)))), HB.out.2.2.1.of (by (repeat (first | (with_reducible exact SinceOf.refl _) | (with_reducible assumption) | (with_reducible refine SinceOf.alloc ?_ _) | (with_reducible refine SinceOf.drew ?_) | (with_reducible refine SinceOf.drewN ?_ _) | (with_reducible refine SinceOf.later ?_ _) | (with_reducible refine SinceOf.further ?_ _) | (with_reducible refine SinceOf.setCell ?_ (by first | exact Nat.le_refl _ | (simp; done) | omega | (simp; omega)) _)))), ?_, by (repeat (first | (with_reducible exact SinceOf.refl _) | (with_reducible assumption) | (with_reducible refine SinceOf.alloc ?_ _) | (with_reducible refine SinceOf.drew ?_) | (with_reducible refine SinceOf.drewN ?_ _) | (with_reducible refine SinceOf.later ?_ _) | (with_reducible refine SinceOf.further ?_ _) | (with_reducible refine SinceOf.setCell ?_ (by first | exact Nat.le_refl _ | (simp; done) | omega | (simp; omega)) _))), HB.out.1⟩
        rw [← hgb]
        exact VarV.new _ _ _ _
      case round =>
        obtain ⟨i, b, hi, hgas, rfl, e1, e2, e3, ⟨u, rfl⟩, hall⟩ := hrel
        by_cases hlt : i < r.length
        · rw [List.drop_eq_getElem_cons hlt, List.foldl_cons] at hall
          have hr0 := H.out.of (w' := u.wd) (by (repeat (first | (with_reducible exact SinceOf.refl _) | (with_reducible assumption) | (with_reducible refine SinceOf.alloc ?_ _) | (with_reducible refine SinceOf.drew ?_) | (with_reducible refine SinceOf.drewN ?_ _) | (with_reducible refine SinceOf.later ?_ _) | (with_reducible refine SinceOf.further ?_ _) | (with_reducible refine SinceOf.setCell ?_ (by first | exact Nat.le_refl _ | (simp; done) | omega | (simp; omega)) _))))
          obtain ⟨g', off', he, hr⟩ := hr0.at_ (by omega)
          injection he with he
          injection he with hg1 ho1
          subst hg1 ho1
          have hO' := hr.there
          have x0 := hr.v0 i hlt
          have x1 := hr.v1 i hlt
          generalize r[i] = x at *
          obtain ⟨xx, xy⟩ := x
          obtain ⟨bx, by_⟩ := b
          simp only at x0 x1
          have d0 := e1.c0
          have d1 := e1.c1
          have q0 := e3.c0
          have q1 := e3.c1
          have f0 := e3.f0
          have f1 := e3.f1
          have hg3 := e3.lt
          have hg1 := e1.lt
          have hU1 : Nonempty (Old u.wd w.heap.size) := ⟨⟨by omega⟩⟩
          have hU3 : Nonempty (Old u.wd gb) := ⟨⟨by omega⟩⟩
          simp only at d0 d1 q0 q1
          have D1 := dot_any xx xy dx dy
          have D2 := dot_any bx by_ dx dy
          have L1 := less_any xx xy bx by_
          have hst : farS (dx, dy) (bx, by_) (xx, xy) = if 0 < cmpi (dotI xx xy dx dy) (dotI bx by_ dx dy) ∨ (cmpi (dotI xx xy dx dy) (dotI bx by_ dx dy) = 0 ∧ vcmp xx xy bx by_ < 0) then (xx, xy) else (bx, by_) := rfl
          generalize dotI xx xy dx dy = m1 at *
          generalize dotI bx by_ dx dy = m2 at *
          have C1 : ∀ W, Gives Try.prog 65 #[.int .i64 m1, .int .i64 m2] W (.int .i64 (cmpi m1 m2)) := fun W => Gives.ret ((cmpCompare_any m1 m2 W).mono (by rintro e w' ⟨rfl, rfl⟩; exact ⟨rfl, by (repeat (first | (with_reducible exact LaterOf.refl _) | (with_reducible refine LaterOf.alloc ?_ _) | (with_reducible refine LaterOf.drew ?_) | (with_reducible refine LaterOf.drewN ?_ _) | (with_reducible refine LaterOf.later ?_ _) | (with_reducible refine LaterOf.setCell ?_ (by first | exact Nat.le_refl _ | (simp; done) | omega | (simp; omega)) _)))⟩))
          generalize cmpi m1 m2 = t at *
          generalize vcmp xx xy bx by_ = tv at *
          have HE := Lib.hid (And.intro hall (And.intro hst (And.intro e1 (And.intro e2 e3))))
          clear hall hst e1 e2 e3 hr hr0
          rcases Int.lt_trichotomy t 0 with h | h | h
          · have e1 : decide (0 < t) = false := decide_eq_false (by omega)
            have e2 : (t == 0) = false := by simp; omega
            go_wp2_with fail
            refine region_later (by kernel_rfl) (by kernel_rfl) ?_
            repeat (go_big_quiet_step ((first | with_reducible refine Gives.later (D1 _) | with_reducible refine Gives.later (D2 _) | with_reducible refine Gives.later (C1 _))))
            refine wpQuiet_nil ?_
            rintro _ ⟨z4, rfl⟩
            clear D1 D2 C1
            go_wp2_with fail
            go_roundg (r.length - (i + 1))
            case measure => omega
            case rel =>
              refine ⟨i + 1, (bx, by_), hlt, Nat.le_refl _, by go_num, HE.out.2.2.1.of (by (repeat (first | (with_reducible exact SinceOf.refl _) | (with_reducible assumption) | (with_reducible refine SinceOf.alloc ?_ _) | (with_reducible refine SinceOf.drew ?_) | (with_reducible refine SinceOf.drewN ?_ _) | (with_reducible refine SinceOf.later ?_ _) | (with_reducible refine SinceOf.further ?_ _) | (with_reducible refine SinceOf.setCell ?_ (by first | exact Nat.le_refl _ | (simp; done) | omega | (simp; omega)) _)))), HE.out.2.2.2.1.of (by (repeat (first | (with_reducible exact SinceOf.refl _) | (with_reducible assumption) | (with_reducible refine SinceOf.alloc ?_ _) | (with_reducible refine SinceOf.drew ?_) | (with_reducible refine SinceOf.drewN ?_ _) | (with_reducible refine SinceOf.later ?_ _) | (with_reducible refine SinceOf.further ?_ _) | (with_reducible refine SinceOf.setCell ?_ (by first | exact Nat.le_refl _ | (simp; done) | omega | (simp; omega)) _)))), HE.out.2.2.2.2.of (by (repeat (first | (with_reducible exact SinceOf.refl _) | (with_reducible assumption) | (with_reducible refine SinceOf.alloc ?_ _) | (with_reducible refine SinceOf.drew ?_) | (with_reducible refine SinceOf.drewN ?_ _) | (with_reducible refine SinceOf.later ?_ _) | (with_reducible refine SinceOf.further ?_ _) | (with_reducible refine SinceOf.setCell ?_ (by first | exact Nat.le_refl _ | (simp; done) | omega | (simp; omega)) _)))), by (repeat (first | (with_reducible exact SinceOf.refl _) | (with_reducible assumption) | (with_reducible refine SinceOf.alloc ?_ _) | (with_reducible refine SinceOf.drew ?_) | (with_reducible refine SinceOf.drewN ?_ _) | (with_reducible refine SinceOf.later ?_ _) | (with_reducible refine SinceOf.further ?_ _) | (with_reducible refine SinceOf.setCell ?_ (by first | exact Nat.le_refl _ | (simp; done) | omega | (simp; omega)) _))), ?_⟩
              rw [HE.out.1, HE.out.2.1, if_neg (by omega)]
          · subst h
            by_cases hl : tv < 0
            · have e1 : decide (tv < 0) = true := decide_eq_true hl
              rw [e1] at L1
              go_wp2_with fail
              refine region_later (by kernel_rfl) (by kernel_rfl) ?_
              repeat (go_big_quiet_step ((first | with_reducible refine Gives.later (D1 _) | with_reducible refine Gives.later (D2 _) | with_reducible refine Gives.later (C1 _))))
              refine wpQuiet_nil ?_
              rintro _ ⟨z4, rfl⟩
              clear D1 D2 C1
              go_wp2_with fail
              refine (L1 _).calls.mono ?_
              rintro e _ ⟨rfl, z5, rfl⟩
              go_wp2_with fail
              go_roundg (r.length - (i + 1))
              case measure => omega
              case rel =>
                refine ⟨i + 1, (xx, xy), hlt, Nat.le_refl _, by go_num, (HE.out.2.2.1.of (by (repeat (first | (with_reducible exact SinceOf.refl _) | (with_reducible assumption) | (with_reducible refine SinceOf.alloc ?_ _) | (with_reducible refine SinceOf.drew ?_) | (with_reducible refine SinceOf.drewN ?_ _) | (with_reducible refine SinceOf.later ?_ _) | (with_reducible refine SinceOf.further ?_ _) | (with_reducible refine SinceOf.setCell ?_ (by first | exact Nat.le_refl _ | (simp; done) | omega | (simp; omega)) _))))).other (by omega) _ _, (HE.out.2.2.2.1.of (by (repeat (first | (with_reducible exact SinceOf.refl _) | (with_reducible assumption) | (with_reducible refine SinceOf.alloc ?_ _) | (with_reducible refine SinceOf.drew ?_) | (with_reducible refine SinceOf.drewN ?_ _) | (with_reducible refine SinceOf.later ?_ _) | (with_reducible refine SinceOf.further ?_ _) | (with_reducible refine SinceOf.setCell ?_ (by first | exact Nat.le_refl _ | (simp; done) | omega | (simp; omega)) _))))).other (by omega) _ _, (HE.out.2.2.2.2.of (by (repeat (first | (with_reducible exact SinceOf.refl _) | (with_reducible assumption) | (with_reducible refine SinceOf.alloc ?_ _) | (with_reducible refine SinceOf.drew ?_) | (with_reducible refine SinceOf.drewN ?_ _) | (with_reducible refine SinceOf.later ?_ _) | (with_reducible refine SinceOf.further ?_ _) | (with_reducible refine SinceOf.setCell ?_ (by first | exact Nat.le_refl _ | (simp; done) | omega | (simp; omega)) _))))).put _ _, (SinceOf.setCell (SinceOf.setCell (by (repeat (first | (with_reducible exact SinceOf.refl _) | (with_reducible assumption) | (with_reducible refine SinceOf.alloc ?_ _) | (with_reducible refine SinceOf.drew ?_) | (with_reducible refine SinceOf.drewN ?_ _) | (with_reducible refine SinceOf.later ?_ _) | (with_reducible refine SinceOf.further ?_ _) | (with_reducible refine SinceOf.setCell ?_ (by first | exact Nat.le_refl _ | (simp; done) | omega | (simp; omega)) _)))) (by simp; omega) _) (by simp; omega) _), ?_⟩
                rw [HE.out.1, HE.out.2.1, if_pos (.inr ⟨(by first | rfl | trivial), hl⟩)]
            · have e1 : decide (tv < 0) = false := decide_eq_false hl
              rw [e1] at L1
              go_wp2_with fail
              refine region_later (by kernel_rfl) (by kernel_rfl) ?_
              repeat (go_big_quiet_step ((first | with_reducible refine Gives.later (D1 _) | with_reducible refine Gives.later (D2 _) | with_reducible refine Gives.later (C1 _))))
              refine wpQuiet_nil ?_
              rintro _ ⟨z4, rfl⟩
              clear D1 D2 C1
              go_wp2_with fail
              refine (L1 _).calls.mono ?_
              rintro e _ ⟨rfl, z5, rfl⟩
              go_wp2_with fail
              go_roundg (r.length - (i + 1))
              case measure => omega
              case rel =>
                refine ⟨i + 1, (bx, by_), hlt, Nat.le_refl _, by go_num, HE.out.2.2.1.of (by (repeat (first | (with_reducible exact SinceOf.refl _) | (with_reducible assumption) | (with_reducible refine SinceOf.alloc ?_ _) | (with_reducible refine SinceOf.drew ?_) | (with_reducible refine SinceOf.drewN ?_ _) | (with_reducible refine SinceOf.later ?_ _) | (with_reducible refine SinceOf.further ?_ _) | (with_reducible refine SinceOf.setCell ?_ (by first | exact Nat.le_refl _ | (simp; done) | omega | (simp; omega)) _)))), HE.out.2.2.2.1.of (by (repeat (first | (with_reducible exact SinceOf.refl _) | (with_reducible assumption) | (with_reducible refine SinceOf.alloc ?_ _) | (with_reducible refine SinceOf.drew ?_) | (with_reducible refine SinceOf.drewN ?_ _) | (with_reducible refine SinceOf.later ?_ _) | (with_reducible refine SinceOf.further ?_ _) | (with_reducible refine SinceOf.setCell ?_ (by first | exact Nat.le_refl _ | (simp; done) | omega | (simp; omega)) _)))), HE.out.2.2.2.2.of (by (repeat (first | (with_reducible exact SinceOf.refl _) | (with_reducible assumption) | (with_reducible refine SinceOf.alloc ?_ _) | (with_reducible refine SinceOf.drew ?_) | (with_reducible refine SinceOf.drewN ?_ _) | (with_reducible refine SinceOf.later ?_ _) | (with_reducible refine SinceOf.further ?_ _) | (with_reducible refine SinceOf.setCell ?_ (by first | exact Nat.le_refl _ | (simp; done) | omega | (simp; omega)) _)))), by (repeat (first | (with_reducible exact SinceOf.refl _) | (with_reducible assumption) | (with_reducible refine SinceOf.alloc ?_ _) | (with_reducible refine SinceOf.drew ?_) | (with_reducible refine SinceOf.drewN ?_ _) | (with_reducible refine SinceOf.later ?_ _) | (with_reducible refine SinceOf.further ?_ _) | (with_reducible refine SinceOf.setCell ?_ (by first | exact Nat.le_refl _ | (simp; done) | omega | (simp; omega)) _))), ?_⟩
                rw [HE.out.1, HE.out.2.1, if_neg (by omega)]
          · have e1 : decide (0 < t) = true := decide_eq_true h
            go_wp2_with fail
            refine region_later (by kernel_rfl) (by kernel_rfl) ?_
            repeat (go_big_quiet_step ((first | with_reducible refine Gives.later (D1 _) | with_reducible refine Gives.later (D2 _) | with_reducible refine Gives.later (C1 _))))
            refine wpQuiet_nil ?_
            rintro _ ⟨z4, rfl⟩
            clear D1 D2 C1
            go_wp2_with fail
            go_roundg (r.length - (i + 1))
            case measure => omega
            case rel =>
              refine ⟨i + 1, (xx, xy), hlt, Nat.le_refl _, by go_num, (HE.out.2.2.1.of (by (repeat (first | (with_reducible exact SinceOf.refl _) | (with_reducible assumption) | (with_reducible refine SinceOf.alloc ?_ _) | (with_reducible refine SinceOf.drew ?_) | (with_reducible refine SinceOf.drewN ?_ _) | (with_reducible refine SinceOf.later ?_ _) | (with_reducible refine SinceOf.further ?_ _) | (with_reducible refine SinceOf.setCell ?_ (by first | exact Nat.le_refl _ | (simp; done) | omega | (simp; omega)) _))))).other (by omega) _ _, (HE.out.2.2.2.1.of (by (repeat (first | (with_reducible exact SinceOf.refl _) | (with_reducible assumption) | (with_reducible refine SinceOf.alloc ?_ _) | (with_reducible refine SinceOf.drew ?_) | (with_reducible refine SinceOf.drewN ?_ _) | (with_reducible refine SinceOf.later ?_ _) | (with_reducible refine SinceOf.further ?_ _) | (with_reducible refine SinceOf.setCell ?_ (by first | exact Nat.le_refl _ | (simp; done) | omega | (simp; omega)) _))))).other (by omega) _ _, (HE.out.2.2.2.2.of (by (repeat (first | (with_reducible exact SinceOf.refl _) | (with_reducible assumption) | (with_reducible refine SinceOf.alloc ?_ _) | (with_reducible refine SinceOf.drew ?_) | (with_reducible refine SinceOf.drewN ?_ _) | (with_reducible refine SinceOf.later ?_ _) | (with_reducible refine SinceOf.further ?_ _) | (with_reducible refine SinceOf.setCell ?_ (by first | exact Nat.le_refl _ | (simp; done) | omega | (simp; omega)) _))))).put _ _, (SinceOf.setCell (SinceOf.setCell (by (repeat (first | (with_reducible exact SinceOf.refl _) | (with_reducible assumption) | (with_reducible refine SinceOf.alloc ?_ _) | (with_reducible refine SinceOf.drew ?_) | (with_reducible refine SinceOf.drewN ?_ _) | (with_reducible refine SinceOf.later ?_ _) | (with_reducible refine SinceOf.further ?_ _) | (with_reducible refine SinceOf.setCell ?_ (by first | exact Nat.le_refl _ | (simp; done) | omega | (simp; omega)) _)))) (by simp; omega) _) (by simp; omega) _), ?_⟩
              rw [HE.out.1, HE.out.2.1, if_pos (.inl h)]
        · have hil : i = r.length := by omega
          subst hil
          rw [List.drop_length] at hall
          have q0 := e3.c0
          have q1 := e3.c1
          have r0 := e2.c0
          have r1 := e2.c1
          have g0 := e2.f0
          have g1 := e2.f1
          have hg3 := e3.lt
          have hg1 := e2.lt
          have hU1 : Nonempty (Old u.wd (w.heap.size + 1)) := ⟨⟨by omega⟩⟩
          have hU3 : Nonempty (Old u.wd gb) := ⟨⟨by omega⟩⟩
          have P := e2.put b.1 b.2
          have p0 := P.c0
          have p1 := P.c1
          have p2 : (u.wd.setCell ⟨w.heap.size + 1, 0, none⟩ (.int .i64 b.1)).cell? ⟨w.heap.size + 1, 0, none⟩ = some (.int .i64 b.1) := World.cell?_setCell_same _ _ _ r0
          simp only at p0 p1
          have HA := Lib.hid hall
          clear hall e1 e2 e3 P
          go_wp2_with fail
          (try simp only [Exit.inBlock, Exit.then])
          refine bodyPost_ret (by simp [results, Try.results29, go_sem, *]; try rfl) rfl ?_
          exact ⟨by rw [HA.out]; rfl, SinceOf.setCell (SinceOf.setCell (by (repeat (first | (with_reducible exact SinceOf.refl _) | (with_reducible assumption) | (with_reducible refine SinceOf.alloc ?_ _) | (with_reducible refine SinceOf.drew ?_) | (with_reducible refine SinceOf.drewN ?_ _) | (with_reducible refine SinceOf.later ?_ _) | (with_reducible refine SinceOf.further ?_ _) | (with_reducible refine SinceOf.setCell ?_ (by first | exact Nat.le_refl _ | (simp; done) | omega | (simp; omega)) _)))) (by simp) _) (by simp) _⟩
    · rw [hf] at N
      go_enter Try.func29, Try.ntmps29
      go_wp2_with fail
      refine (C _ (by (repeat (first | (with_reducible exact SinceOf.refl _) | (with_reducible assumption) | (with_reducible refine SinceOf.alloc ?_ _) | (with_reducible refine SinceOf.drew ?_) | (with_reducible refine SinceOf.drewN ?_ _) | (with_reducible refine SinceOf.later ?_ _) | (with_reducible refine SinceOf.further ?_ _) | (with_reducible refine SinceOf.setCell ?_ (by first | exact Nat.le_refl _ | (simp; done) | omega | (simp; omega)) _))))).calls.mono ?_
      rintro e _ ⟨rfl, x0, rfl⟩
      clear C
      go_wp2_with fail
      refine (N _).calls.mono ?_
      rintro e _ ⟨rfl, x1, rfl⟩
      go_wp2_with fail
      go_returns
      exact ⟨rfl, by (repeat (first | (with_reducible exact SinceOf.refl _) | (with_reducible assumption) | (with_reducible refine SinceOf.alloc ?_ _) | (with_reducible refine SinceOf.drew ?_) | (with_reducible refine SinceOf.drewN ?_ _) | (with_reducible refine SinceOf.later ?_ _) | (with_reducible refine SinceOf.further ?_ _) | (with_reducible refine SinceOf.setCell ?_ (by first | exact Nat.le_refl _ | (simp; done) | omega | (simp; omega)) _)))⟩
end Go.Proofs.Yticmfmcflikneaa
