/- Layer 10: has; the walk of HullContains. -/
import Derived.Test.YticmfmcflikneaaHull15
import Derived.Test.YticmfmcflikneaaHull16
import Derived.Test.YticmfmcflikneaaHull18
import Derived.Test.YticmfmcflikneaaHull22
import Derived.Test.YticmfmcflikneaaHull25
namespace Go.Proofs.Yticmfmcflikneaa
open Go.RowKit Go.Sort
set_option linter.unusedVariables false
set_option linter.unusedSimpArgs false
attribute [local go_sem ↓] Go.wp_at_zero Go.wp_at_succ

def hasP (l : List Pt) (p : Pt) : Bool := l.any (fun q => eqv q.1 q.2 p.1 p.2)
theorem hasP_iff {l : List Pt} {p : Pt} : hasP l p = true ↔ p ∈ l := by
  unfold hasP
  rw [List.any_eq_true]
  constructor
  · rintro ⟨q, hq, h⟩
    obtain ⟨h1, h2⟩ := eqv_iff.1 h
    have : q = p := Prod.ext h1 h2
    exact this ▸ hq
  · intro h
    exact ⟨p, h, eqv_iff.2 ⟨rfl, rfl⟩⟩
set_option maxRecDepth 100000 in
set_option maxHeartbeats 2000000 in
theorem has10_any (A : Option Addr) (c : Nat) (l : List (Int × Int)) (px py : Int) (w : World) (h : IsVecs w A c l) (hlen : l.length < 4611686018427387904) :
    Gives Try.prog 33 #[.slice A l.length c, vv px py] w (.bool (hasP l (px, py))) := by
  apply Gives.ret
  have H := Lib.hid h
  clear h
  have HV := Lib.hid (VarV.new w px py 32)
  unfold hasP
  go_enter Try.func33, Try.ntmps33
  go_wp2_with fail
  go_loopg [5] l.length (fun gas s5 wr => ∃ k : Nat, k ≤ l.length ∧ l.length - k ≤ gas ∧ s5 = .int .i64 k ∧ VarV wr w.heap.size (px, py) ∧ LaterOf w wr ∧ l.any (fun q => eqv q.1 q.2 px py) = (l.drop k).any (fun q => eqv q.1 q.2 px py))
  case atStart => exact ⟨0, by omega, by omega, rfl, HV.out.of (by (repeat (first | (with_reducible exact SinceOf.refl _) | (with_reducible assumption) | (with_reducible refine SinceOf.alloc ?_ _) | (with_reducible refine SinceOf.drew ?_) | (with_reducible refine SinceOf.drewN ?_ _) | (with_reducible refine SinceOf.later ?_ _) | (with_reducible refine SinceOf.further ?_ _) | (with_reducible refine SinceOf.setCell ?_ (by first | exact Nat.le_refl _ | (simp; done) | omega | (simp; omega)) _)))), by (repeat (first | (with_reducible exact LaterOf.refl _) | (with_reducible refine LaterOf.alloc ?_ _) | (with_reducible refine LaterOf.drew ?_) | (with_reducible refine LaterOf.drewN ?_ _) | (with_reducible refine LaterOf.later ?_ _) | (with_reducible refine LaterOf.setCell ?_ (by first | exact Nat.le_refl _ | (simp; done) | omega | (simp; omega)) _))), by rw [List.drop_zero]⟩
  case round =>
    obtain ⟨k, hk, hgas, rfl, e1, ⟨z, rfl⟩, hany⟩ := hrel
    by_cases hlt : k < l.length
    · have hc := (H.out.of (LaterOf.since ⟨z, rfl⟩))
      obtain ⟨g, off, rfl, hr⟩ := hc.at_ (by omega)
      have hO := hr.there
      have k0 := hr.v0 k hlt
      have k1 := hr.v1 k hlt
      have d0 := e1.c0
      have d1 := e1.c1
      have hg1 := e1.lt
      have hU1 : Nonempty (Old z.wd w.heap.size) := ⟨⟨by omega⟩⟩
      rw [any_dropV _ hlt] at hany
      generalize l[k] = x at *
      obtain ⟨x, y⟩ := x
      simp only at k0 k1 d0 d1 hany
      have HE := Lib.hid e1
      clear hc hr e1
      by_cases he : eqv x y px py = true
      · obtain ⟨rfl, rfl⟩ := eqv_iff.1 he
        rw [he] at hany
        have HA := Lib.hid hany
        clear hany he
        go_wp2_with fail
        refine region_later (by kernel_rfl) (by kernel_rfl) ?_
        repeat (go_big_quiet_step (fail))
        refine wpQuiet_nil ?_
        rintro _ ⟨z4, rfl⟩
        go_wp2_with fail
        go_returns
        exact ⟨by rw [HA.out]; rfl, by (repeat (first | (with_reducible exact LaterOf.refl _) | (with_reducible refine LaterOf.alloc ?_ _) | (with_reducible refine LaterOf.drew ?_) | (with_reducible refine LaterOf.drewN ?_ _) | (with_reducible refine LaterOf.later ?_ _) | (with_reducible refine LaterOf.setCell ?_ (by first | exact Nat.le_refl _ | (simp; done) | omega | (simp; omega)) _)))⟩
      · have hne : eqv x y px py = false := by simpa using he
        rw [hne] at hany
        have HA := Lib.hid hany
        clear hany he
        go_wp2_with fail
        refine region_later (by kernel_rfl) (by kernel_rfl) ?_
        repeat (go_big_quiet_step (fail))
        refine wpQuiet_nil ?_
        rintro _ ⟨z4, rfl⟩
        go_wp2_with fail
        go_roundg (l.length - (k + 1))
        case measure => omega
        case rel => exact ⟨k + 1, hlt, Nat.le_refl _, by go_num, HE.out.of (by (repeat (first | (with_reducible exact SinceOf.refl _) | (with_reducible assumption) | (with_reducible refine SinceOf.alloc ?_ _) | (with_reducible refine SinceOf.drew ?_) | (with_reducible refine SinceOf.drewN ?_ _) | (with_reducible refine SinceOf.later ?_ _) | (with_reducible refine SinceOf.further ?_ _) | (with_reducible refine SinceOf.setCell ?_ (by first | exact Nat.le_refl _ | (simp; done) | omega | (simp; omega)) _)))), by (repeat (first | (with_reducible exact LaterOf.refl _) | (with_reducible refine LaterOf.alloc ?_ _) | (with_reducible refine LaterOf.drew ?_) | (with_reducible refine LaterOf.drewN ?_ _) | (with_reducible refine LaterOf.later ?_ _) | (with_reducible refine LaterOf.setCell ?_ (by first | exact Nat.le_refl _ | (simp; done) | omega | (simp; omega)) _))), by rw [HA.out]; rfl⟩
    · have hkl : k = l.length := by omega
      rw [hkl, List.drop_length] at hany
      have HA := Lib.hid hany
      clear hany e1
      go_wp2_with fail
      go_returns
      exact ⟨by rw [HA.out]; rfl, by (repeat (first | (with_reducible exact LaterOf.refl _) | (with_reducible refine LaterOf.alloc ?_ _) | (with_reducible refine LaterOf.drew ?_) | (with_reducible refine LaterOf.drewN ?_ _) | (with_reducible refine LaterOf.later ?_ _) | (with_reducible refine LaterOf.setCell ?_ (by first | exact Nat.le_refl _ | (simp; done) | omega | (simp; omega)) _)))⟩
theorem HullY.less {l r : List Pt} (h : HullY l r) {i : Nat} (hi : i < r.length) (h0 : 0 < i) : lexy (at0 r 0) (at0 r i) := by
  rcases h.first _ (h.hull.sub _ (at0_mem hi)) with e | e
  · exact absurd e.symm (h.hull.cv.ne h.hull.three (by omega) hi (by omega))
  · exact e
theorem smallB_far {l : List Pt} (h : smallB l = true) : l.any farB = false ∧ l.length ≤ 30 := by
  unfold smallB at h
  simpa using h
set_option maxRecDepth 100000 in
set_option maxHeartbeats 8000000 in
theorem hullContains_any (A : Option Addr) (c : Nat) (l : List (Int × Int)) (w : World) (h : IsVecs w A c l) (hlen : l.length < 4611686018427387904) :
    Yields Try.prog 8 #[.slice A l.length c] w (.bool true) := by
  apply Yields.ret
  have H := Lib.hid h
  clear h
  have S := fun W (hW : SinceOf w W) => small10_any A c l W (H.out.of hW) hlen
  by_cases hs : smallB l = true
  case neg =>
    rw [show smallB l = false by simpa using hs] at S
    go_enter Try.func8, Try.ntmps8
    go_wp2_with fail
    refine (awake10_any _).calls.mono ?_
    rintro e _ ⟨rfl, x1, rfl⟩
    go_wp2_with fail
    refine (S _ (by (repeat (first | (with_reducible exact SinceOf.refl _) | (with_reducible assumption) | (with_reducible refine SinceOf.alloc ?_ _) | (with_reducible refine SinceOf.drew ?_) | (with_reducible refine SinceOf.drewN ?_ _) | (with_reducible refine SinceOf.later ?_ _) | (with_reducible refine SinceOf.further ?_ _) | (with_reducible refine SinceOf.setCell ?_ (by first | exact Nat.le_refl _ | (simp; done) | omega | (simp; omega)) _))))).calls.mono ?_
    rintro e _ ⟨rfl, x2, rfl⟩
    go_wp2_with fail
    go_returns
    exact ⟨rfl, by (repeat (first | (with_reducible exact SinceOf.refl _) | (with_reducible assumption) | (with_reducible refine SinceOf.alloc ?_ _) | (with_reducible refine SinceOf.drew ?_) | (with_reducible refine SinceOf.drewN ?_ _) | (with_reducible refine SinceOf.later ?_ _) | (with_reducible refine SinceOf.further ?_ _) | (with_reducible refine SinceOf.setCell ?_ (by first | exact Nat.le_refl _ | (simp; done) | omega | (simp; omega)) _)))⟩
  rw [hs] at S
  have HS := Lib.hid hs
  obtain ⟨hf, h30⟩ := smallB_far hs
  have HF := Lib.hid hf
  clear hs hf
  go_enter Try.func8, Try.ntmps8
  go_wp2_with fail
  refine (awake10_any _).calls.mono ?_
  rintro e _ ⟨rfl, x1, rfl⟩
  go_wp2_with fail
  refine (S _ (by (repeat (first | (with_reducible exact SinceOf.refl _) | (with_reducible assumption) | (with_reducible refine SinceOf.alloc ?_ _) | (with_reducible refine SinceOf.drew ?_) | (with_reducible refine SinceOf.drewN ?_ _) | (with_reducible refine SinceOf.later ?_ _) | (with_reducible refine SinceOf.further ?_ _) | (with_reducible refine SinceOf.setCell ?_ (by first | exact Nat.le_refl _ | (simp; done) | omega | (simp; omega)) _))))).calls.mono ?_
  rintro e _ ⟨rfl, x2, rfl⟩
  clear S
  go_wp2_with fail
  refine (hull_any A c l _ (H.out.of (by (repeat (first | (with_reducible exact SinceOf.refl _) | (with_reducible assumption) | (with_reducible refine SinceOf.alloc ?_ _) | (with_reducible refine SinceOf.drew ?_) | (with_reducible refine SinceOf.drewN ?_ _) | (with_reducible refine SinceOf.later ?_ _) | (with_reducible refine SinceOf.further ?_ _) | (with_reducible refine SinceOf.setCell ?_ (by first | exact Nat.le_refl _ | (simp; done) | omega | (simp; omega)) _))))) (by omega)).mono ?_
  rintro e _ ⟨A3, c3, r, er, rfl, hv3, hr3, ⟨x3, rfl⟩⟩
  have hs3 : SinceOf w x3.wd := by (repeat (first | (with_reducible exact SinceOf.refl _) | (with_reducible assumption) | (with_reducible refine SinceOf.alloc ?_ _) | (with_reducible refine SinceOf.drew ?_) | (with_reducible refine SinceOf.drewN ?_ _) | (with_reducible refine SinceOf.later ?_ _) | (with_reducible refine SinceOf.further ?_ _) | (with_reducible refine SinceOf.setCell ?_ (by first | exact Nat.le_refl _ | (simp; done) | omega | (simp; omega)) _)))
  obtain ⟨u3, hu3⟩ := hs3
  rw [hu3] at hv3 ⊢
  clear hu3 x3 x2 x1
  rcases hr3.small HS.out with ⟨rfl, rfl, hfl⟩ | ⟨rfl, hy, hrl⟩
  · have HR := Lib.hid hfl
    clear hr3 hfl
    go_wp2_with fail
    go_loopg [5] l.length (fun gas s1 wr => ∃ i : Nat, i ≤ l.length ∧ l.length - i ≤ gas ∧ s1 = .int .i64 i ∧ LaterOf u3.wd wr)
    case atStart => exact ⟨0, by omega, by omega, rfl, by (repeat (first | (with_reducible exact LaterOf.refl _) | (with_reducible refine LaterOf.alloc ?_ _) | (with_reducible refine LaterOf.drew ?_) | (with_reducible refine LaterOf.drewN ?_ _) | (with_reducible refine LaterOf.later ?_ _) | (with_reducible refine LaterOf.setCell ?_ (by first | exact Nat.le_refl _ | (simp; done) | omega | (simp; omega)) _)))⟩
    case round =>
      obtain ⟨i, hi, hgas, rfl, ⟨z, rfl⟩⟩ := hrel
      by_cases hlt : i < l.length
      · go_wp2_with fail
        go_loopg [6] l.length (fun gas2 s2 wr => ∃ k : Nat, k ≤ l.length ∧ l.length - k ≤ gas2 ∧ s2 = .int .i64 k ∧ LaterOf z.wd wr)
        case atStart => exact ⟨0, by omega, by omega, rfl, by (repeat (first | (with_reducible exact LaterOf.refl _) | (with_reducible refine LaterOf.alloc ?_ _) | (with_reducible refine LaterOf.drew ?_) | (with_reducible refine LaterOf.drewN ?_ _) | (with_reducible refine LaterOf.later ?_ _) | (with_reducible refine LaterOf.setCell ?_ (by first | exact Nat.le_refl _ | (simp; done) | omega | (simp; omega)) _)))⟩
        case round =>
          obtain ⟨k, hk, hgas2, rfl, ⟨z2, rfl⟩⟩ := hrel
          by_cases hkl : k < l.length
          · have hr0 := H.out.of (w' := z.wd) (by (repeat (first | (with_reducible exact SinceOf.refl _) | (with_reducible assumption) | (with_reducible refine SinceOf.alloc ?_ _) | (with_reducible refine SinceOf.drew ?_) | (with_reducible refine SinceOf.drewN ?_ _) | (with_reducible refine SinceOf.later ?_ _) | (with_reducible refine SinceOf.further ?_ _) | (with_reducible refine SinceOf.setCell ?_ (by first | exact Nat.le_refl _ | (simp; done) | omega | (simp; omega)) _))))
            obtain ⟨g, off, rfl, hr⟩ := hr0.at_ (by omega)
            have hO := hr.there
            have h00 : 0 < l.length := by omega
            have a0 := hr.v0 0 h00
            have a1 := hr.v1 0 h00
            have p0 := hr.v0 i hlt
            have p1 := hr.v1 i hlt
            have q0 := hr.v0 k hkl
            have q1 := hr.v1 k hkl
            simp only [Nat.zero_mul, Nat.add_zero] at a0 a1
            have ht := turn_det (far_false HF.out (List.getElem_mem h00)) (far_false HF.out (List.getElem_mem hlt)) (far_false HF.out (List.getElem_mem hkl))
            have T := refTurn_any l[0].1 l[0].2 l[i].1 l[i].2 l[k].1 l[k].2
            rw [ht, HR.out _ (List.getElem_mem h00) _ (List.getElem_mem hlt) _ (List.getElem_mem hkl), show cmpi 0 0 = 0 from rfl] at T
            generalize l[k] = q at *
            generalize l[i] = p at *
            generalize l[0] = a at *
            obtain ⟨ax, ay⟩ := a
            obtain ⟨px, py⟩ := p
            obtain ⟨qx, qy⟩ := q
            simp only at a0 a1 p0 p1 q0 q1 T
            clear hr hr0 ht
            by_cases he : eqv px py ax ay = true
            · obtain ⟨rfl, rfl⟩ := eqv_iff.1 he
              clear he
              go_wp2_with fail
              refine region_later (by kernel_rfl) (by kernel_rfl) ?_
              repeat (go_big_quiet_step (fail))
              refine wpQuiet_nil ?_
              rintro _ ⟨z4, rfl⟩
              go_wp2_with fail
              go_roundg (l.length - (k + 1))
              case measure => omega
              case rel => exact ⟨k + 1, hkl, Nat.le_refl _, by go_num, by (repeat (first | (with_reducible exact LaterOf.refl _) | (with_reducible refine LaterOf.alloc ?_ _) | (with_reducible refine LaterOf.drew ?_) | (with_reducible refine LaterOf.drewN ?_ _) | (with_reducible refine LaterOf.later ?_ _) | (with_reducible refine LaterOf.setCell ?_ (by first | exact Nat.le_refl _ | (simp; done) | omega | (simp; omega)) _)))⟩
            · have hne : eqv px py ax ay = false := by simpa using he
              clear he
              go_wp2_with fail
              refine region_later (by kernel_rfl) (by kernel_rfl) ?_
              repeat (go_big_quiet_step ((with_reducible refine Gives.later (T _))))
              refine wpQuiet_nil ?_
              rintro _ ⟨z4, rfl⟩
              go_wp2_with fail
              go_roundg (l.length - (k + 1))
              case measure => omega
              case rel => exact ⟨k + 1, hkl, Nat.le_refl _, by go_num, by (repeat (first | (with_reducible exact LaterOf.refl _) | (with_reducible refine LaterOf.alloc ?_ _) | (with_reducible refine LaterOf.drew ?_) | (with_reducible refine LaterOf.drewN ?_ _) | (with_reducible refine LaterOf.later ?_ _) | (with_reducible refine LaterOf.setCell ?_ (by first | exact Nat.le_refl _ | (simp; done) | omega | (simp; omega)) _)))⟩
          · have hkl2 : k = l.length := by omega
            go_wp2_with fail
            go_roundg (l.length - (i + 1))
            case measure => omega
            case rel => exact ⟨i + 1, hlt, Nat.le_refl _, by go_num, by (repeat (first | (with_reducible exact LaterOf.refl _) | (with_reducible refine LaterOf.alloc ?_ _) | (with_reducible refine LaterOf.drew ?_) | (with_reducible refine LaterOf.drewN ?_ _) | (with_reducible refine LaterOf.later ?_ _) | (with_reducible refine LaterOf.setCell ?_ (by first | exact Nat.le_refl _ | (simp; done) | omega | (simp; omega)) _)))⟩
      · go_wp2_with fail
        go_returns
        exact ⟨rfl, by (repeat (first | (with_reducible exact SinceOf.refl _) | (with_reducible assumption) | (with_reducible refine SinceOf.alloc ?_ _) | (with_reducible refine SinceOf.drew ?_) | (with_reducible refine SinceOf.drewN ?_ _) | (with_reducible refine SinceOf.later ?_ _) | (with_reducible refine SinceOf.further ?_ _) | (with_reducible refine SinceOf.setCell ?_ (by first | exact Nat.le_refl _ | (simp; done) | omega | (simp; omega)) _)))⟩
  · have h160 : r.length ≤ 160 := by omega
    have HR := Lib.hid (And.intro hy (And.intro hv3 (hull_convexB HF.out hy.hull h160)))
    have hr3' := hy.hull.three
    clear hr3 hy hv3
    go_wp2_with fail
    go_loopg [7] l.length (fun gas s1 wr => ∃ i : Nat, i ≤ l.length ∧ l.length - i ≤ gas ∧ s1 = .int .i64 i ∧ LaterOf u3.wd wr)
    case atStart => exact ⟨0, by omega, by omega, rfl, by (repeat (first | (with_reducible exact LaterOf.refl _) | (with_reducible refine LaterOf.alloc ?_ _) | (with_reducible refine LaterOf.drew ?_) | (with_reducible refine LaterOf.drewN ?_ _) | (with_reducible refine LaterOf.later ?_ _) | (with_reducible refine LaterOf.setCell ?_ (by first | exact Nat.le_refl _ | (simp; done) | omega | (simp; omega)) _)))⟩
    case round =>
      obtain ⟨i, hi, hgas, rfl, ⟨z, rfl⟩⟩ := hrel
      by_cases hlt : i < l.length
      · have hr0 := H.out.of (w' := z.wd) (by (repeat (first | (with_reducible exact SinceOf.refl _) | (with_reducible assumption) | (with_reducible refine SinceOf.alloc ?_ _) | (with_reducible refine SinceOf.drew ?_) | (with_reducible refine SinceOf.drewN ?_ _) | (with_reducible refine SinceOf.later ?_ _) | (with_reducible refine SinceOf.further ?_ _) | (with_reducible refine SinceOf.setCell ?_ (by first | exact Nat.le_refl _ | (simp; done) | omega | (simp; omega)) _))))
        obtain ⟨g, off, rfl, hr⟩ := hr0.at_ (by omega)
        have hO := hr.there
        have p0 := hr.v0 i hlt
        have p1 := hr.v1 i hlt
        have P := fun W (hW : SinceOf u3.wd W) => where_any A3 c3 r l[i].1 l[i].2 W (HR.out.2.1.of hW) (by omega)
        have hwh : whereV r (l[i].1, l[i].2) ≠ 0 := hull_where HF.out HR.out.1.hull h160 (List.getElem_mem hlt)
        generalize whereV r (l[i].1, l[i].2) = t at *
        generalize l[i] = p at *
        obtain ⟨px, py⟩ := p
        simp only at p0 p1 P
        have g1 : (t == 0) = false := by simpa using hwh
        clear hr hr0 hwh
        go_wp2_with fail
        refine (P _ (by (repeat (first | (with_reducible exact SinceOf.refl _) | (with_reducible assumption) | (with_reducible refine SinceOf.alloc ?_ _) | (with_reducible refine SinceOf.drew ?_) | (with_reducible refine SinceOf.drewN ?_ _) | (with_reducible refine SinceOf.later ?_ _) | (with_reducible refine SinceOf.further ?_ _) | (with_reducible refine SinceOf.setCell ?_ (by first | exact Nat.le_refl _ | (simp; done) | omega | (simp; omega)) _))))).calls.mono ?_
        rintro e _ ⟨rfl, x5, rfl⟩
        clear P
        go_wp2_with fail
        go_roundg (l.length - (i + 1))
        case measure => omega
        case rel => exact ⟨i + 1, hlt, Nat.le_refl _, by go_num, by (repeat (first | (with_reducible exact LaterOf.refl _) | (with_reducible refine LaterOf.alloc ?_ _) | (with_reducible refine LaterOf.drew ?_) | (with_reducible refine LaterOf.drewN ?_ _) | (with_reducible refine LaterOf.later ?_ _) | (with_reducible refine LaterOf.setCell ?_ (by first | exact Nat.le_refl _ | (simp; done) | omega | (simp; omega)) _)))⟩
      · go_wp2_with fail
        go_loopg [8] r.length (fun gas s1 wr => ∃ i : Nat, i ≤ r.length ∧ r.length - i ≤ gas ∧ s1 = .int .i64 i ∧ LaterOf u3.wd wr)
        case atStart => exact ⟨0, by omega, by omega, rfl, by (repeat (first | (with_reducible exact LaterOf.refl _) | (with_reducible refine LaterOf.alloc ?_ _) | (with_reducible refine LaterOf.drew ?_) | (with_reducible refine LaterOf.drewN ?_ _) | (with_reducible refine LaterOf.later ?_ _) | (with_reducible refine LaterOf.setCell ?_ (by first | exact Nat.le_refl _ | (simp; done) | omega | (simp; omega)) _)))⟩
        case round =>
          obtain ⟨k, hk, hgas, rfl, ⟨z2, rfl⟩⟩ := hrel
          by_cases hkl : k < r.length
          · have hr0 := HR.out.2.1.of (w' := z2.wd) (by (repeat (first | (with_reducible exact SinceOf.refl _) | (with_reducible assumption) | (with_reducible refine SinceOf.alloc ?_ _) | (with_reducible refine SinceOf.drew ?_) | (with_reducible refine SinceOf.drewN ?_ _) | (with_reducible refine SinceOf.later ?_ _) | (with_reducible refine SinceOf.further ?_ _) | (with_reducible refine SinceOf.setCell ?_ (by first | exact Nat.le_refl _ | (simp; done) | omega | (simp; omega)) _))))
            obtain ⟨g, off, rfl, hr⟩ := hr0.at_ (by omega)
            have hO := hr.there
            have h00 : 0 < r.length := by omega
            have a0 := hr.v0 0 h00
            have a1 := hr.v1 0 h00
            have p0 := hr.v0 k hkl
            have p1 := hr.v1 k hkl
            simp only [Nat.zero_mul, Nat.add_zero] at a0 a1
            have Q := fun W (hW : SinceOf w W) => has10_any A c l r[k].1 r[k].2 W (H.out.of hW) hlen
            have hq : hasP l (r[k].1, r[k].2) = true := hasP_iff.2 (HR.out.1.hull.sub _ (List.getElem_mem hkl))
            rw [hq] at Q
            have L := refLess_any r[0].1 r[0].2 r[k].1 r[k].2
            have hL : 0 < k → lessB r[0].1 r[0].2 r[k].1 r[k].2 = true := fun h0 => (lessB_lexy _ _).2 (by
              have := HR.out.1.less hkl h0
              rwa [at0_eq hkl, at0_eq h00] at this)
            generalize r[k] = p at *
            generalize r[0] = a at *
            obtain ⟨px, py⟩ := p
            obtain ⟨ax, ay⟩ := a
            simp only at a0 a1 p0 p1 Q L hL
            clear hr hr0 hq
            by_cases h0 : 0 < k
            · rw [hL h0] at L
              have g1 : decide (0 < (k : Int)) = true := decide_eq_true (by omega)
              clear hL
              go_wp2_with fail
              refine region_later (by kernel_rfl) (by kernel_rfl) ?_
              repeat (go_big_quiet_step ((first | with_reducible refine Gives.later (Q _ (by (repeat (first | (with_reducible exact SinceOf.refl _) | (with_reducible assumption) | (with_reducible refine SinceOf.alloc ?_ _) | (with_reducible refine SinceOf.drew ?_) | (with_reducible refine SinceOf.drewN ?_ _) | (with_reducible refine SinceOf.later ?_ _) | (with_reducible refine SinceOf.further ?_ _) | (with_reducible refine SinceOf.setCell ?_ (by first | exact Nat.le_refl _ | (simp; done) | omega | (simp; omega)) _))))) | with_reducible refine Gives.later (L _))))
              refine wpQuiet_nil ?_
              rintro _ ⟨z4, rfl⟩
              go_wp2_with fail
              go_roundg (r.length - (k + 1))
              case measure => omega
              case rel => exact ⟨k + 1, hkl, Nat.le_refl _, by go_num, by (repeat (first | (with_reducible exact LaterOf.refl _) | (with_reducible refine LaterOf.alloc ?_ _) | (with_reducible refine LaterOf.drew ?_) | (with_reducible refine LaterOf.drewN ?_ _) | (with_reducible refine LaterOf.later ?_ _) | (with_reducible refine LaterOf.setCell ?_ (by first | exact Nat.le_refl _ | (simp; done) | omega | (simp; omega)) _)))⟩
            · have hk0 : k = 0 := by omega
              subst hk0
              have g1 : decide (0 < ((0 : Nat) : Int)) = false := decide_eq_false (by omega)
              simp only [Nat.zero_mul, Nat.add_zero] at p0 p1
              clear hL a0 a1 h0
              go_wp2_with fail
              refine region_later (by kernel_rfl) (by kernel_rfl) ?_
              repeat (go_big_quiet_step ((first | with_reducible refine Gives.later (Q _ (by (repeat (first | (with_reducible exact SinceOf.refl _) | (with_reducible assumption) | (with_reducible refine SinceOf.alloc ?_ _) | (with_reducible refine SinceOf.drew ?_) | (with_reducible refine SinceOf.drewN ?_ _) | (with_reducible refine SinceOf.later ?_ _) | (with_reducible refine SinceOf.further ?_ _) | (with_reducible refine SinceOf.setCell ?_ (by first | exact Nat.le_refl _ | (simp; done) | omega | (simp; omega)) _))))) | with_reducible refine Gives.later (L _))))
              refine wpQuiet_nil ?_
              rintro _ ⟨z4, rfl⟩
              go_wp2_with fail
              go_roundg (r.length - (0 + 1))
              case measure => omega
              case rel => exact ⟨1, hkl, Nat.le_refl _, by go_num, by (repeat (first | (with_reducible exact LaterOf.refl _) | (with_reducible refine LaterOf.alloc ?_ _) | (with_reducible refine LaterOf.drew ?_) | (with_reducible refine LaterOf.drewN ?_ _) | (with_reducible refine LaterOf.later ?_ _) | (with_reducible refine LaterOf.setCell ?_ (by first | exact Nat.le_refl _ | (simp; done) | omega | (simp; omega)) _)))⟩
          · have C1 := convex_any A3 c3 r _ (HR.out.2.1.of (w' := z2.wd) (by (repeat (first | (with_reducible exact SinceOf.refl _) | (with_reducible assumption) | (with_reducible refine SinceOf.alloc ?_ _) | (with_reducible refine SinceOf.drew ?_) | (with_reducible refine SinceOf.drewN ?_ _) | (with_reducible refine SinceOf.later ?_ _) | (with_reducible refine SinceOf.further ?_ _) | (with_reducible refine SinceOf.setCell ?_ (by first | exact Nat.le_refl _ | (simp; done) | omega | (simp; omega)) _))))) (by omega)
            rw [HR.out.2.2] at C1
            go_wp2_with fail
            refine C1.calls.mono ?_
            rintro e _ ⟨rfl, x6, rfl⟩
            go_wp2_with fail
            go_returns
            exact ⟨rfl, by (repeat (first | (with_reducible exact SinceOf.refl _) | (with_reducible assumption) | (with_reducible refine SinceOf.alloc ?_ _) | (with_reducible refine SinceOf.drew ?_) | (with_reducible refine SinceOf.drewN ?_ _) | (with_reducible refine SinceOf.later ?_ _) | (with_reducible refine SinceOf.further ?_ _) | (with_reducible refine SinceOf.setCell ?_ (by first | exact Nat.le_refl _ | (simp; done) | omega | (simp; omega)) _)))⟩
end Go.Proofs.Yticmfmcflikneaa
