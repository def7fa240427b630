/- Layer 10: the walk of HullDiameter. -/
import Derived.Test.YticmfmcflikneaaHull28
namespace Go.Proofs.Yticmfmcflikneaa
open Go.RowKit Go.Sort
set_option linter.unusedVariables false
set_option linter.unusedSimpArgs false
attribute [local go_sem ↓] Go.wp_at_zero Go.wp_at_succ

/-- Some two vertices, the second one of a lesser index, have this squared distance. -/
def pairK (r : List Pt) (n : Int) (i : Nat) : Nat → Bool
  | 0 => false
  | k + 1 => pairK r n i k || (d2 (at0 r i) (at0 r k) == n)
def pairI (r : List Pt) (n : Int) : Nat → Bool
  | 0 => false
  | i + 1 => pairI r n i || pairK r n i i
theorem pairK_true {r : List Pt} {n : Int} {i : Nat} : ∀ {m k : Nat}, k < m → d2 (at0 r i) (at0 r k) = n → pairK r n i m = true
  | m + 1, k, h, e => by
    unfold pairK
    by_cases q : k = m
    · subst q; rw [e]; simp
    · rw [pairK_true (by omega) e]; rfl
theorem pairI_true {r : List Pt} {n : Int} : ∀ {m i k : Nat}, i < m → k < i → d2 (at0 r i) (at0 r k) = n → pairI r n m = true
  | m + 1, i, k, h, h2, e => by
    unfold pairI
    by_cases q : i = m
    · subst q; rw [pairK_true h2 e]; simp
    · rw [pairI_true (by omega) h2 e]; rfl
set_option maxRecDepth 100000 in
set_option maxHeartbeats 16000000 in
theorem hullDiameter_any (A : Option Addr) (c : Nat) (l : List (Int × Int)) (dx dy : Int) (w : World) (h : IsVecs w A c l) (hlen : l.length < 4611686018427387904) :
    Yields Try.prog 6 #[.slice A l.length c, vv dx dy] w (.bool true) := by
  apply Yields.ret
  have H := Lib.hid h
  clear h
  have S := fun W (hW : SinceOf w W) => small10_any A c l W (H.out.of hW) hlen
  have N1 := refWithin_any dx dy 2000
  have HV := Lib.hid (VarV.new w dx dy 32)
  cases hs : smallB l
  · rw [hs] at S
    go_enter Try.func6, Try.ntmps6
    go_wp2_with fail
    refine (awake10_any _).calls.mono ?_
    rintro e _ ⟨rfl, x1, rfl⟩
    go_wp2_with fail
    refine (S _ (by (repeat (first | (with_reducible exact SinceOf.refl _) | (with_reducible assumption) | (with_reducible refine SinceOf.alloc ?_ _) | (with_reducible refine SinceOf.drew ?_) | (with_reducible refine SinceOf.drewN ?_ _) | (with_reducible refine SinceOf.later ?_ _) | (with_reducible refine SinceOf.further ?_ _) | (with_reducible refine SinceOf.setCell ?_ (by first | exact Nat.le_refl _ | (simp; done) | omega | (simp; omega)) _))))).calls.mono ?_
    rintro e _ ⟨rfl, x2, rfl⟩
    go_wp2_with fail
    go_returns
    exact ⟨rfl, by (repeat (first | (with_reducible exact SinceOf.refl _) | (with_reducible assumption) | (with_reducible refine SinceOf.alloc ?_ _) | (with_reducible refine SinceOf.drew ?_) | (with_reducible refine SinceOf.drewN ?_ _) | (with_reducible refine SinceOf.later ?_ _) | (with_reducible refine SinceOf.further ?_ _) | (with_reducible refine SinceOf.setCell ?_ (by first | exact Nat.le_refl _ | (simp; done) | omega | (simp; omega)) _)))⟩
  rw [hs] at S
  have HS := Lib.hid hs
  clear hs
  cases h1 : withinB dx dy 2000
  · rw [h1] at N1
    go_enter Try.func6, Try.ntmps6
    go_wp2_with fail
    refine (awake10_any _).calls.mono ?_
    rintro e _ ⟨rfl, x1, rfl⟩
    go_wp2_with fail
    refine (S _ (by (repeat (first | (with_reducible exact SinceOf.refl _) | (with_reducible assumption) | (with_reducible refine SinceOf.alloc ?_ _) | (with_reducible refine SinceOf.drew ?_) | (with_reducible refine SinceOf.drewN ?_ _) | (with_reducible refine SinceOf.later ?_ _) | (with_reducible refine SinceOf.further ?_ _) | (with_reducible refine SinceOf.setCell ?_ (by first | exact Nat.le_refl _ | (simp; done) | omega | (simp; omega)) _))))).calls.mono ?_
    rintro e _ ⟨rfl, x2, rfl⟩
    go_wp2_with fail
    refine (N1 _).calls.mono ?_
    rintro e _ ⟨rfl, x3, rfl⟩
    go_wp2_with fail
    go_returns
    exact ⟨rfl, by (repeat (first | (with_reducible exact SinceOf.refl _) | (with_reducible assumption) | (with_reducible refine SinceOf.alloc ?_ _) | (with_reducible refine SinceOf.drew ?_) | (with_reducible refine SinceOf.drewN ?_ _) | (with_reducible refine SinceOf.later ?_ _) | (with_reducible refine SinceOf.further ?_ _) | (with_reducible refine SinceOf.setCell ?_ (by first | exact Nat.le_refl _ | (simp; done) | omega | (simp; omega)) _)))⟩
  rw [h1] at N1
  have HN := Lib.hid ((near_within (by omega)).1 h1)
  obtain ⟨hf, h30⟩ := smallB_far HS.out
  clear h1
  have HF := Lib.hid hf
  clear hf
  go_enter Try.func6, Try.ntmps6
  go_wp2_with fail
  refine (awake10_any _).calls.mono ?_
  rintro e _ ⟨rfl, x1, rfl⟩
  go_wp2_with fail
  refine (S _ (by (repeat (first | (with_reducible exact SinceOf.refl _) | (with_reducible assumption) | (with_reducible refine SinceOf.alloc ?_ _) | (with_reducible refine SinceOf.drew ?_) | (with_reducible refine SinceOf.drewN ?_ _) | (with_reducible refine SinceOf.later ?_ _) | (with_reducible refine SinceOf.further ?_ _) | (with_reducible refine SinceOf.setCell ?_ (by first | exact Nat.le_refl _ | (simp; done) | omega | (simp; omega)) _))))).calls.mono ?_
  rintro e _ ⟨rfl, x2, rfl⟩
  clear S
  go_wp2_with fail
  refine (N1 _).calls.mono ?_
  rintro e _ ⟨rfl, x3, rfl⟩
  clear N1
  have v1 : VarV x3.wd w.heap.size (dx, dy) := HV.out.of (by (repeat (first | (with_reducible exact SinceOf.refl _) | (with_reducible assumption) | (with_reducible refine SinceOf.alloc ?_ _) | (with_reducible refine SinceOf.drew ?_) | (with_reducible refine SinceOf.drewN ?_ _) | (with_reducible refine SinceOf.later ?_ _) | (with_reducible refine SinceOf.further ?_ _) | (with_reducible refine SinceOf.setCell ?_ (by first | exact Nat.le_refl _ | (simp; done) | omega | (simp; omega)) _))))
  obtain ⟨u4, hu4⟩ : SinceOf w x3.wd := by (repeat (first | (with_reducible exact SinceOf.refl _) | (with_reducible assumption) | (with_reducible refine SinceOf.alloc ?_ _) | (with_reducible refine SinceOf.drew ?_) | (with_reducible refine SinceOf.drewN ?_ _) | (with_reducible refine SinceOf.later ?_ _) | (with_reducible refine SinceOf.further ?_ _) | (with_reducible refine SinceOf.setCell ?_ (by first | exact Nat.le_refl _ | (simp; done) | omega | (simp; omega)) _)))
  rw [hu4] at v1 ⊢
  have hg4 := v1.lt
  have HV4 := Lib.hid v1
  clear hu4 x3 x2 x1 v1 HV
  go_wp2_with fail
  go_loopg [5] l.length (fun gas s5 wr => ∃ k : Nat, k ≤ l.length ∧ l.length - k ≤ gas ∧ s5 = .int .i64 k ∧ LaterOf u4.wd wr ∧ ∀ p ∈ l.take k, near 2000 p)
  case atStart => exact ⟨0, by omega, by omega, rfl, by (repeat (first | (with_reducible exact LaterOf.refl _) | (with_reducible refine LaterOf.alloc ?_ _) | (with_reducible refine LaterOf.drew ?_) | (with_reducible refine LaterOf.drewN ?_ _) | (with_reducible refine LaterOf.later ?_ _) | (with_reducible refine LaterOf.setCell ?_ (by first | exact Nat.le_refl _ | (simp; done) | omega | (simp; omega)) _))), (fun p hp => by simp at hp)⟩
  case round =>
    obtain ⟨k, hk, hgas, rfl, ⟨z, rfl⟩, hnear⟩ := hrel
    by_cases hlt : k < l.length
    · have hr0 := H.out.of (w' := z.wd) (by (repeat (first | (with_reducible exact SinceOf.refl _) | (with_reducible assumption) | (with_reducible refine SinceOf.alloc ?_ _) | (with_reducible refine SinceOf.drew ?_) | (with_reducible refine SinceOf.drewN ?_ _) | (with_reducible refine SinceOf.later ?_ _) | (with_reducible refine SinceOf.further ?_ _) | (with_reducible refine SinceOf.setCell ?_ (by first | exact Nat.le_refl _ | (simp; done) | omega | (simp; omega)) _))))
      obtain ⟨g, off, rfl, hr⟩ := hr0.at_ (by omega)
      have hO := hr.there
      have p0 := hr.v0 k hlt
      have p1 := hr.v1 k hlt
      have htk := List.take_succ_eq_append_getElem hlt
      have N4 := refWithin_any l[k].1 l[k].2 2000
      have hn4 := near_within (x := l[k].1) (y := l[k].2) (m := 2000) (by omega)
      generalize l[k] = p at *
      obtain ⟨px, py⟩ := p
      simp only at p0 p1 N4 hn4
      cases hb : withinB px py 2000
      · rw [hb] at N4
        clear hnear htk hr hr0 hn4 hb
        go_wp2_with fail
        refine (N4 _).calls.mono ?_
        rintro e _ ⟨rfl, y1, rfl⟩
        go_wp2_with fail
        go_returns
        exact ⟨rfl, by (repeat (first | (with_reducible exact SinceOf.refl _) | (with_reducible assumption) | (with_reducible refine SinceOf.alloc ?_ _) | (with_reducible refine SinceOf.drew ?_) | (with_reducible refine SinceOf.drewN ?_ _) | (with_reducible refine SinceOf.later ?_ _) | (with_reducible refine SinceOf.further ?_ _) | (with_reducible refine SinceOf.setCell ?_ (by first | exact Nat.le_refl _ | (simp; done) | omega | (simp; omega)) _)))⟩
      · rw [hb] at N4
        have HP := Lib.hid (And.intro hnear (And.intro htk (hn4.1 hb)))
        clear hnear htk hr hr0 hn4 hb
        go_wp2_with fail
        refine (N4 _).calls.mono ?_
        rintro e _ ⟨rfl, y1, rfl⟩
        go_wp2_with fail
        go_roundg (l.length - (k + 1))
        case measure => omega
        case rel =>
          refine ⟨k + 1, hlt, Nat.le_refl _, by go_num, by (repeat (first | (with_reducible exact LaterOf.refl _) | (with_reducible refine LaterOf.alloc ?_ _) | (with_reducible refine LaterOf.drew ?_) | (with_reducible refine LaterOf.drewN ?_ _) | (with_reducible refine LaterOf.later ?_ _) | (with_reducible refine LaterOf.setCell ?_ (by first | exact Nat.le_refl _ | (simp; done) | omega | (simp; omega)) _))), fun q hq => ?_⟩
          rw [HP.out.2.1] at hq
          rcases List.mem_append.1 hq with hq | hq
          · exact HP.out.1 q hq
          · rw [show q = (px, py) by simpa using hq]; exact HP.out.2.2
    · have hkl : k = l.length := by omega
      subst hkl
      rw [List.take_length] at hnear
      have HP := Lib.hid hnear
      clear hnear
      go_wp2_with fail
      refine (hull_any A c l _ (H.out.of (by (repeat (first | (with_reducible exact SinceOf.refl _) | (with_reducible assumption) | (with_reducible refine SinceOf.alloc ?_ _) | (with_reducible refine SinceOf.drew ?_) | (with_reducible refine SinceOf.drewN ?_ _) | (with_reducible refine SinceOf.later ?_ _) | (with_reducible refine SinceOf.further ?_ _) | (with_reducible refine SinceOf.setCell ?_ (by first | exact Nat.le_refl _ | (simp; done) | omega | (simp; omega)) _))))) (by omega)).mono ?_
      rintro e _ ⟨A3, c3, r, er, rfl, hv3, hr3, ⟨x1, rfl⟩⟩
      have v1 : VarV x1.wd w.heap.size (dx, dy) := HV4.out.of (by (repeat (first | (with_reducible exact SinceOf.refl _) | (with_reducible assumption) | (with_reducible refine SinceOf.alloc ?_ _) | (with_reducible refine SinceOf.drew ?_) | (with_reducible refine SinceOf.drewN ?_ _) | (with_reducible refine SinceOf.later ?_ _) | (with_reducible refine SinceOf.further ?_ _) | (with_reducible refine SinceOf.setCell ?_ (by first | exact Nat.le_refl _ | (simp; done) | omega | (simp; omega)) _))))
      obtain ⟨u5, hu5⟩ : SinceOf w x1.wd := by (repeat (first | (with_reducible exact SinceOf.refl _) | (with_reducible assumption) | (with_reducible refine SinceOf.alloc ?_ _) | (with_reducible refine SinceOf.drew ?_) | (with_reducible refine SinceOf.drewN ?_ _) | (with_reducible refine SinceOf.later ?_ _) | (with_reducible refine SinceOf.further ?_ _) | (with_reducible refine SinceOf.setCell ?_ (by first | exact Nat.le_refl _ | (simp; done) | omega | (simp; omega)) _)))
      rw [hu5] at v1 hv3 ⊢
      clear hu5 x1
      rcases hr3.small HS.out with ⟨rfl, rfl, -⟩ | ⟨rfl, hy, hrl⟩
      · clear hr3
        go_wp2_with fail
        go_returns
        exact ⟨rfl, by (repeat (first | (with_reducible exact SinceOf.refl _) | (with_reducible assumption) | (with_reducible refine SinceOf.alloc ?_ _) | (with_reducible refine SinceOf.drew ?_) | (with_reducible refine SinceOf.drewN ?_ _) | (with_reducible refine SinceOf.later ?_ _) | (with_reducible refine SinceOf.further ?_ _) | (with_reducible refine SinceOf.setCell ?_ (by first | exact Nat.le_refl _ | (simp; done) | omega | (simp; omega)) _)))⟩
      · have hcv := hull_convexB HF.out hy.hull (by omega)
        obtain ⟨⟨i0, hi0, k0, hk0, hd0⟩, -, -⟩ := dia_law hcv
        have hfr : r.any farB = false := far_sub HF.out hy.hull.sub
        have hfound : pairI r (dia r) r.length = true := pairI_true hi0 hk0 hd0
        obtain ⟨W, e1, e2⟩ := diameter_law HP.out HN.out hy (by omega)
        have W1 := width_any A3 c3 r dx dy
        have D1 := diameter_any A3 c3 r
        rw [e1] at W1
        rw [hcv] at D1
        simp only [if_true] at W1 D1
        have DT := refDot_any dx dy dx dy
        have gW : decide (wmul W W ≤ wmul (dia r) (dotI dx dy dx dy)) = true := decide_eq_true e2
        unfold wmul at gW
        generalize dotI dx dy dx dy = D at *
        generalize dia r = n at *
        have HR := Lib.hid (And.intro v1 (And.intro hv3 (And.intro hfound hfr)))
        have d0 := v1.c0
        have d1 := v1.c1
        have hg1 := v1.lt
        have hU1 : Nonempty (Old u5.wd w.heap.size) := ⟨⟨by omega⟩⟩
        simp only at d0 d1
        clear hr3 hcv hi0 hk0 hd0 hfr hfound e1 e2 v1 hv3 hy
        go_wp2_with fail
        refine (W1 _ (HR.out.2.1.of (by (repeat (first | (with_reducible exact SinceOf.refl _) | (with_reducible assumption) | (with_reducible refine SinceOf.alloc ?_ _) | (with_reducible refine SinceOf.drew ?_) | (with_reducible refine SinceOf.drewN ?_ _) | (with_reducible refine SinceOf.later ?_ _) | (with_reducible refine SinceOf.further ?_ _) | (with_reducible refine SinceOf.setCell ?_ (by first | exact Nat.le_refl _ | (simp; done) | omega | (simp; omega)) _))))) (by omega)).mono ?_
        rintro e _ ⟨rfl, ⟨x1, rfl⟩⟩
        clear W1
        go_wp2_with fail
        refine (D1 _ (HR.out.2.1.of (by (repeat (first | (with_reducible exact SinceOf.refl _) | (with_reducible assumption) | (with_reducible refine SinceOf.alloc ?_ _) | (with_reducible refine SinceOf.drew ?_) | (with_reducible refine SinceOf.drewN ?_ _) | (with_reducible refine SinceOf.later ?_ _) | (with_reducible refine SinceOf.further ?_ _) | (with_reducible refine SinceOf.setCell ?_ (by first | exact Nat.le_refl _ | (simp; done) | omega | (simp; omega)) _))))) (by omega)).mono ?_
        rintro e _ ⟨rfl, ⟨x2, rfl⟩⟩
        clear D1
        have v1 : VarV x2.wd w.heap.size (dx, dy) := HR.out.1.of (by (repeat (first | (with_reducible exact SinceOf.refl _) | (with_reducible assumption) | (with_reducible refine SinceOf.alloc ?_ _) | (with_reducible refine SinceOf.drew ?_) | (with_reducible refine SinceOf.drewN ?_ _) | (with_reducible refine SinceOf.later ?_ _) | (with_reducible refine SinceOf.further ?_ _) | (with_reducible refine SinceOf.setCell ?_ (by first | exact Nat.le_refl _ | (simp; done) | omega | (simp; omega)) _))))
        have hv3 : IsVecs x2.wd A3 c3 r := HR.out.2.1.of (by (repeat (first | (with_reducible exact SinceOf.refl _) | (with_reducible assumption) | (with_reducible refine SinceOf.alloc ?_ _) | (with_reducible refine SinceOf.drew ?_) | (with_reducible refine SinceOf.drewN ?_ _) | (with_reducible refine SinceOf.later ?_ _) | (with_reducible refine SinceOf.further ?_ _) | (with_reducible refine SinceOf.setCell ?_ (by first | exact Nat.le_refl _ | (simp; done) | omega | (simp; omega)) _))))
        obtain ⟨u6, hu6⟩ : SinceOf w x2.wd := by (repeat (first | (with_reducible exact SinceOf.refl _) | (with_reducible assumption) | (with_reducible refine SinceOf.alloc ?_ _) | (with_reducible refine SinceOf.drew ?_) | (with_reducible refine SinceOf.drewN ?_ _) | (with_reducible refine SinceOf.later ?_ _) | (with_reducible refine SinceOf.further ?_ _) | (with_reducible refine SinceOf.setCell ?_ (by first | exact Nat.le_refl _ | (simp; done) | omega | (simp; omega)) _)))
        rw [hu6] at v1 hv3 ⊢
        have HQ := Lib.hid (And.intro v1 (And.intro hv3 HR.out.2.2))
        clear hu6 x2 x1 d0 d1 hU1 hg1 HR v1 hv3
        go_wp2_with fail
        go_loopg [12, 13] r.length (fun gas s12 s13 wr => ∃ i : Nat, i ≤ r.length ∧ r.length - i ≤ gas ∧ s12 = .bool (pairI r n i) ∧ s13 = .int .i64 i ∧ SinceOf u6.wd wr)
        case atStart => exact ⟨0, by omega, by omega, rfl, rfl, by (repeat (first | (with_reducible exact SinceOf.refl _) | (with_reducible assumption) | (with_reducible refine SinceOf.alloc ?_ _) | (with_reducible refine SinceOf.drew ?_) | (with_reducible refine SinceOf.drewN ?_ _) | (with_reducible refine SinceOf.later ?_ _) | (with_reducible refine SinceOf.further ?_ _) | (with_reducible refine SinceOf.setCell ?_ (by first | exact Nat.le_refl _ | (simp; done) | omega | (simp; omega)) _)))⟩
        case round =>
          obtain ⟨i, hi, hgas, rfl, rfl, ⟨z5, rfl⟩⟩ := hrel
          by_cases hlt : i < r.length
          · obtain ⟨bi, hbi⟩ : ∃ b, b = pairI r n i := ⟨_, rfl⟩
            rw [← hbi]
            have HBI := Lib.hid hbi
            clear hbi
            go_wp2_with fail
            go_loopg [12, 14] i (fun gas2 s12 s14 wr => ∃ k : Nat, k ≤ i ∧ i - k ≤ gas2 ∧ s12 = .bool (bi || pairK r n i k) ∧ s14 = .int .i64 k ∧ SinceOf u6.wd wr)
            case atStart => exact ⟨0, by omega, by omega, by simp [pairK], rfl, by (repeat (first | (with_reducible exact SinceOf.refl _) | (with_reducible assumption) | (with_reducible refine SinceOf.alloc ?_ _) | (with_reducible refine SinceOf.drew ?_) | (with_reducible refine SinceOf.drewN ?_ _) | (with_reducible refine SinceOf.later ?_ _) | (with_reducible refine SinceOf.further ?_ _) | (with_reducible refine SinceOf.setCell ?_ (by first | exact Nat.le_refl _ | (simp; done) | omega | (simp; omega)) _)))⟩
            case round =>
              obtain ⟨k, hk, hgas2, rfl, rfl, ⟨z6, rfl⟩⟩ := hrel
              by_cases hkl : k < i
              · have hz6 := z6.size
                have hr0 := HQ.out.2.1.of (w' := z6.wd) (by (repeat (first | (with_reducible exact SinceOf.refl _) | (with_reducible assumption) | (with_reducible refine SinceOf.alloc ?_ _) | (with_reducible refine SinceOf.drew ?_) | (with_reducible refine SinceOf.drewN ?_ _) | (with_reducible refine SinceOf.later ?_ _) | (with_reducible refine SinceOf.further ?_ _) | (with_reducible refine SinceOf.setCell ?_ (by first | exact Nat.le_refl _ | (simp; done) | omega | (simp; omega)) _))))
                obtain ⟨g, off, rfl, hr⟩ := hr0.at_ (by omega)
                have hO := hr.there
                have hk2 : k < r.length := by omega
                have a0 := hr.v0 i hlt
                have a1 := hr.v1 i hlt
                have b0 := hr.v0 k hk2
                have b1 := hr.v1 k hk2
                have hp : pairK r n i (k + 1) = (pairK r n i k || (d2 (at0 r i) (at0 r k) == n)) := rfl
                rw [at0_eq hlt, at0_eq hk2] at hp
                generalize r[i] = p at *
                generalize r[k] = q at *
                obtain ⟨px, py⟩ := p
                obtain ⟨qx, qy⟩ := q
                have S1 := refSub_any px py qx qy
                have DD := refDot_any (wsub px qx) (wsub py qy) (wsub px qx) (wsub py qy)
                have hd2 : d2 (px, py) (qx, qy) = dotI (wsub px qx) (wsub py qy) (wsub px qx) (wsub py qy) := rfl
                rw [hd2] at hp
                clear hd2
                generalize dotI (wsub px qx) (wsub py qy) (wsub px qx) (wsub py qy) = t at *
                generalize pairK r n i k = bk at *
                generalize htn : (t == n) = bt at *
                simp only at a0 a1 b0 b1
                have HK := Lib.hid hp
                generalize wsub px qx = ex at *
                generalize wsub py qy = ey at *
                clear hp hr hr0
                generalize hob : (bi || bk) = ob at *
                have HOB := Lib.hid hob
                clear hob
                go_wp2_with fail
                go_cut [15] (fun s15 wx => ∃ b7 : Nat, s15 = .pointer (some ⟨b7, 0, none⟩) ∧ wx.cell? ⟨b7, 0, none⟩ = some (.int .i64 ex) ∧ wx.cell? ⟨b7, 1, none⟩ = some (.int .i64 ey) ∧ b7 < wx.heap.size ∧ SinceOf u6.wd wx)
                case first =>
                  go_region_held3 (fun w' => w'.cell? ⟨g, off + i * 2, none⟩ = some (.int .i64 px) ∧ w'.cell? ⟨g, off + i * 2 + 1, none⟩ = some (.int .i64 py) ∧ w'.cell? ⟨g, off + k * 2, none⟩ = some (.int .i64 qx) ∧ w'.cell? ⟨g, off + k * 2 + 1, none⟩ = some (.int .i64 qy)) ((simp [go_sem, *]))
                    ((go_at_call 32; refine (S1 _).calls.mono ?_; rintro e _ ⟨rfl, y1, rfl⟩))
                  all_goals
                    go_wp2_with fail
                    go_meet
                    have e1 := y1.size
                    (try simp only [World.size_alloc, World.size_setCell, World.size_drew] at e1)
                    refine ⟨_, rfl, ?_, ?_, ?_, by (repeat (first | (with_reducible exact SinceOf.refl _) | (with_reducible assumption) | (with_reducible refine SinceOf.alloc ?_ _) | (with_reducible refine SinceOf.drew ?_) | (with_reducible refine SinceOf.drewN ?_ _) | (with_reducible refine SinceOf.later ?_ _) | (with_reducible refine SinceOf.further ?_ _) | (with_reducible refine SinceOf.setCell ?_ (by first | exact Nat.le_refl _ | (simp; done) | omega | (simp; omega)) _)))⟩
                    · simp [go_sem, *]
                    · simp [go_sem, *]
                    · simp only [World.size_alloc, World.size_setCell, World.size_drew]; omega
                case rest =>
                  obtain ⟨b7, rfl, k0, k1, hb7, ⟨z7, rfl⟩⟩ := hcut
                  have hO7 : Nonempty (Old z7.wd b7) := ⟨⟨hb7⟩⟩
                  clear S1
                  cases ob
                  · go_wp2_with fail
                    refine (DD _).calls.mono ?_
                    rintro e _ ⟨rfl, x2, rfl⟩
                    go_wp2_with fail
                    go_roundg (i - (k + 1))
                    case measure => omega
                    case rel => exact ⟨k + 1, hkl, Nat.le_refl _, by rw [HK.out, ← Bool.or_assoc, HOB.out]; first | rfl | simp [htn], by go_num, by (repeat (first | (with_reducible exact SinceOf.refl _) | (with_reducible assumption) | (with_reducible refine SinceOf.alloc ?_ _) | (with_reducible refine SinceOf.drew ?_) | (with_reducible refine SinceOf.drewN ?_ _) | (with_reducible refine SinceOf.later ?_ _) | (with_reducible refine SinceOf.further ?_ _) | (with_reducible refine SinceOf.setCell ?_ (by first | exact Nat.le_refl _ | (simp; done) | omega | (simp; omega)) _)))⟩
                  · clear DD
                    go_wp2_with fail
                    go_roundg (i - (k + 1))
                    case measure => omega
                    case rel => exact ⟨k + 1, hkl, Nat.le_refl _, by rw [HK.out, ← Bool.or_assoc, HOB.out]; rfl, by go_num, by (repeat (first | (with_reducible exact SinceOf.refl _) | (with_reducible assumption) | (with_reducible refine SinceOf.alloc ?_ _) | (with_reducible refine SinceOf.drew ?_) | (with_reducible refine SinceOf.drewN ?_ _) | (with_reducible refine SinceOf.later ?_ _) | (with_reducible refine SinceOf.further ?_ _) | (with_reducible refine SinceOf.setCell ?_ (by first | exact Nat.le_refl _ | (simp; done) | omega | (simp; omega)) _)))⟩
              · have hkl2 : k = i := by omega
                subst hkl2
                go_wp2_with fail
                go_roundg (r.length - (k + 1))
                case measure => omega
                case rel => exact ⟨k + 1, hlt, Nat.le_refl _, by rw [HBI.out]; rfl, by go_num, by (repeat (first | (with_reducible exact SinceOf.refl _) | (with_reducible assumption) | (with_reducible refine SinceOf.alloc ?_ _) | (with_reducible refine SinceOf.drew ?_) | (with_reducible refine SinceOf.drewN ?_ _) | (with_reducible refine SinceOf.later ?_ _) | (with_reducible refine SinceOf.further ?_ _) | (with_reducible refine SinceOf.setCell ?_ (by first | exact Nat.le_refl _ | (simp; done) | omega | (simp; omega)) _)))⟩
          · have hil : i = r.length := by omega
            subst hil
            rw [HQ.out.2.2.1]
            have v1 : VarV z5.wd w.heap.size (dx, dy) := HQ.out.1.of (by (repeat (first | (with_reducible exact SinceOf.refl _) | (with_reducible assumption) | (with_reducible refine SinceOf.alloc ?_ _) | (with_reducible refine SinceOf.drew ?_) | (with_reducible refine SinceOf.drewN ?_ _) | (with_reducible refine SinceOf.later ?_ _) | (with_reducible refine SinceOf.further ?_ _) | (with_reducible refine SinceOf.setCell ?_ (by first | exact Nat.le_refl _ | (simp; done) | omega | (simp; omega)) _))))
            have d0 := v1.c0
            have d1 := v1.c1
            have hg1 := v1.lt
            have hU1 : Nonempty (Old z5.wd w.heap.size) := ⟨⟨by omega⟩⟩
            simp only at d0 d1
            clear v1
            go_wp2_with fail
            refine (DT _).calls.mono ?_
            rintro e _ ⟨rfl, x2, rfl⟩
            go_wp2_with fail
            go_returns
            exact ⟨rfl, by (repeat (first | (with_reducible exact SinceOf.refl _) | (with_reducible assumption) | (with_reducible refine SinceOf.alloc ?_ _) | (with_reducible refine SinceOf.drew ?_) | (with_reducible refine SinceOf.drewN ?_ _) | (with_reducible refine SinceOf.later ?_ _) | (with_reducible refine SinceOf.further ?_ _) | (with_reducible refine SinceOf.setCell ?_ (by first | exact Nat.le_refl _ | (simp; done) | omega | (simp; omega)) _)))⟩
end Go.Proofs.Yticmfmcflikneaa
