/- Layer 10: the walk of HullWidth. -/
import Derived.Test.YticmfmcflikneaaHull28
namespace Go.Proofs.Yticmfmcflikneaa
open Go.RowKit Go.Sort
set_option linter.unusedVariables false
set_option linter.unusedSimpArgs false
attribute [local go_sem ↓] Go.wp_at_zero Go.wp_at_succ

set_option maxRecDepth 100000 in
set_option maxHeartbeats 16000000 in
theorem hullWidth_any (A : Option Addr) (c : Nat) (l : List (Int × Int)) (dx dy vx vy : Int) (w : World) (h : IsVecs w A c l) (hlen : l.length < 4611686018427387904) :
    Yields Try.prog 5 #[.slice A l.length c, vv dx dy, vv vx vy] w (.bool true) := by
  apply Yields.ret
  have H := Lib.hid h
  clear h
  have S := fun W (hW : SinceOf w W) => small10_any A c l W (H.out.of hW) hlen
  have N1 := refWithin_any dx dy 2000
  have N2 := refWithin_any vx vy 2000
  have HV := Lib.hid (And.intro (VarV.new w dx dy 32) (VarV.new (w.alloc (.cells #[.int .i64 dx, .int .i64 dy] 32)) vx vy 32))
  have hsz : (w.alloc (.cells #[.int .i64 dx, .int .i64 dy] 32)).heap.size = w.heap.size + 1 := World.size_alloc _ _
  rw [hsz] at HV
  cases hs : smallB l
  · rw [hs] at S
    go_enter Try.func5, Try.ntmps5
    go_wp2_with fail
    refine (awake10_any _).calls.mono ?_
    rintro e _ ⟨rfl, x1, rfl⟩
    go_wp2_with fail
    refine (S _ (by (repeat (first | (with_reducible exact SinceOf.refl _) | (with_reducible assumption) | (with_reducible refine SinceOf.alloc ?_ _) | (with_reducible refine SinceOf.drew ?_) | (with_reducible refine SinceOf.drewN ?_ _) | (with_reducible refine SinceOf.later ?_ _) | (with_reducible refine SinceOf.further ?_ _) | (with_reducible refine SinceOf.setCell ?_ (by first | exact Nat.le_refl _ | (simp; done) | omega | (simp; omega)) _))))).calls.mono ?_
    rintro e _ ⟨rfl, x2, rfl⟩
    go_wp2_with fail
    go_returns
    exact ⟨rfl, by (repeat (first | (with_reducible exact SinceOf.refl _) | (with_reducible assumption) | (with_reducible refine SinceOf.alloc ?_ _) | (with_reducible refine SinceOf.drew ?_) | (with_reducible refine SinceOf.drewN ?_ _) | (with_reducible refine SinceOf.later ?_ _) | (with_reducible refine SinceOf.further ?_ _) | (with_reducible refine SinceOf.setCell ?_ (by first | exact Nat.le_refl _ | (simp; done) | omega | (simp; omega)) _)))⟩
  rw [hs] at S
  have HS := Lib.hid hs
  clear hs
  cases h1 : withinB dx dy 2000
  · rw [h1] at N1
    go_enter Try.func5, Try.ntmps5
    go_wp2_with fail
    refine (awake10_any _).calls.mono ?_
    rintro e _ ⟨rfl, x1, rfl⟩
    go_wp2_with fail
    refine (S _ (by (repeat (first | (with_reducible exact SinceOf.refl _) | (with_reducible assumption) | (with_reducible refine SinceOf.alloc ?_ _) | (with_reducible refine SinceOf.drew ?_) | (with_reducible refine SinceOf.drewN ?_ _) | (with_reducible refine SinceOf.later ?_ _) | (with_reducible refine SinceOf.further ?_ _) | (with_reducible refine SinceOf.setCell ?_ (by first | exact Nat.le_refl _ | (simp; done) | omega | (simp; omega)) _))))).calls.mono ?_
    rintro e _ ⟨rfl, x2, rfl⟩
    go_wp2_with fail
    refine (N1 _).calls.mono ?_
    rintro e _ ⟨rfl, x3, rfl⟩
    go_wp2_with fail
    go_returns
    exact ⟨rfl, by (repeat (first | (with_reducible exact SinceOf.refl _) | (with_reducible assumption) | (with_reducible refine SinceOf.alloc ?_ _) | (with_reducible refine SinceOf.drew ?_) | (with_reducible refine SinceOf.drewN ?_ _) | (with_reducible refine SinceOf.later ?_ _) | (with_reducible refine SinceOf.further ?_ _) | (with_reducible refine SinceOf.setCell ?_ (by first | exact Nat.le_refl _ | (simp; done) | omega | (simp; omega)) _)))⟩
  rw [h1] at N1
  cases h2 : withinB vx vy 2000
  · rw [h2] at N2
    go_enter Try.func5, Try.ntmps5
    go_wp2_with fail
    refine (awake10_any _).calls.mono ?_
    rintro e _ ⟨rfl, x1, rfl⟩
    go_wp2_with fail
    refine (S _ (by (repeat (first | (with_reducible exact SinceOf.refl _) | (with_reducible assumption) | (with_reducible refine SinceOf.alloc ?_ _) | (with_reducible refine SinceOf.drew ?_) | (with_reducible refine SinceOf.drewN ?_ _) | (with_reducible refine SinceOf.later ?_ _) | (with_reducible refine SinceOf.further ?_ _) | (with_reducible refine SinceOf.setCell ?_ (by first | exact Nat.le_refl _ | (simp; done) | omega | (simp; omega)) _))))).calls.mono ?_
    rintro e _ ⟨rfl, x2, rfl⟩
    go_wp2_with fail
    refine (N1 _).calls.mono ?_
    rintro e _ ⟨rfl, x3, rfl⟩
    go_wp2_with fail
    refine (N2 _).calls.mono ?_
    rintro e _ ⟨rfl, x4, rfl⟩
    go_wp2_with fail
    go_returns
    exact ⟨rfl, by (repeat (first | (with_reducible exact SinceOf.refl _) | (with_reducible assumption) | (with_reducible refine SinceOf.alloc ?_ _) | (with_reducible refine SinceOf.drew ?_) | (with_reducible refine SinceOf.drewN ?_ _) | (with_reducible refine SinceOf.later ?_ _) | (with_reducible refine SinceOf.further ?_ _) | (with_reducible refine SinceOf.setCell ?_ (by first | exact Nat.le_refl _ | (simp; done) | omega | (simp; omega)) _)))⟩
  rw [h2] at N2
  have hnd := (near_within (by omega)).1 h1
  have hnv := (near_within (by omega)).1 h2
  have HN := Lib.hid (And.intro hnd hnv)
  obtain ⟨hf, h30⟩ := smallB_far HS.out
  clear h1 h2
  obtain ⟨i0, hi, hz0, hz1, hz2⟩ := info_parts infoVec
  have HI := Lib.hid (And.intro hi (And.intro hz0 (And.intro hz1 hz2)))
  clear hi hz0 hz1 hz2
  have HF := Lib.hid hf
  clear hf hnd hnv
  go_enter Try.func5, Try.ntmps5
  go_wp2_with fail
  refine (awake10_any _).calls.mono ?_
  rintro e _ ⟨rfl, x1, rfl⟩
  go_wp2_with fail
  refine (S _ (by (repeat (first | (with_reducible exact SinceOf.refl _) | (with_reducible assumption) | (with_reducible refine SinceOf.alloc ?_ _) | (with_reducible refine SinceOf.drew ?_) | (with_reducible refine SinceOf.drewN ?_ _) | (with_reducible refine SinceOf.later ?_ _) | (with_reducible refine SinceOf.further ?_ _) | (with_reducible refine SinceOf.setCell ?_ (by first | exact Nat.le_refl _ | (simp; done) | omega | (simp; omega)) _))))).calls.mono ?_
  rintro e _ ⟨rfl, x2, rfl⟩
  clear S
  go_wp2_with fail
  refine (N1 _).calls.mono ?_
  rintro e _ ⟨rfl, x3, rfl⟩
  clear N1
  go_wp2_with fail
  refine (N2 _).calls.mono ?_
  rintro e _ ⟨rfl, x4, rfl⟩
  clear N2
  have v1 : VarV x4.wd w.heap.size (dx, dy) := HV.out.1.of (by (repeat (first | (with_reducible exact SinceOf.refl _) | (with_reducible assumption) | (with_reducible refine SinceOf.alloc ?_ _) | (with_reducible refine SinceOf.drew ?_) | (with_reducible refine SinceOf.drewN ?_ _) | (with_reducible refine SinceOf.later ?_ _) | (with_reducible refine SinceOf.further ?_ _) | (with_reducible refine SinceOf.setCell ?_ (by first | exact Nat.le_refl _ | (simp; done) | omega | (simp; omega)) _))))
  have v2 : VarV x4.wd (w.heap.size + 1) (vx, vy) := HV.out.2.of (by (repeat (first | (with_reducible exact SinceOf.refl _) | (with_reducible assumption) | (with_reducible refine SinceOf.alloc ?_ _) | (with_reducible refine SinceOf.drew ?_) | (with_reducible refine SinceOf.drewN ?_ _) | (with_reducible refine SinceOf.later ?_ _) | (with_reducible refine SinceOf.further ?_ _) | (with_reducible refine SinceOf.setCell ?_ (by first | exact Nat.le_refl _ | (simp; done) | omega | (simp; omega)) _))))
  have hs4 : SinceOf w x4.wd := by (repeat (first | (with_reducible exact SinceOf.refl _) | (with_reducible assumption) | (with_reducible refine SinceOf.alloc ?_ _) | (with_reducible refine SinceOf.drew ?_) | (with_reducible refine SinceOf.drewN ?_ _) | (with_reducible refine SinceOf.later ?_ _) | (with_reducible refine SinceOf.further ?_ _) | (with_reducible refine SinceOf.setCell ?_ (by first | exact Nat.le_refl _ | (simp; done) | omega | (simp; omega)) _)))
  obtain ⟨u4, hu4⟩ := hs4
  rw [hu4] at v1 v2 ⊢
  have hg4 := v2.lt
  have HV4 := Lib.hid (And.intro v1 v2)
  clear hu4 x4 x3 x2 x1 v1 v2 HV
  go_wp2_with fail
  go_loopg [7, 8] l.length (fun gas s7 s8 wr => ∃ (k : Nat) (A2 : Option Addr) (c2 : Nat), k ≤ l.length ∧ l.length - k ≤ gas ∧ s7 = .slice A2 k c2 ∧ s8 = .int .i64 k ∧ OwnVecs (w.heap.size + 2) wr A2 c2 ((l.take k).map (tr (vx, vy))) ∧ VarV wr w.heap.size (dx, dy) ∧ VarV wr (w.heap.size + 1) (vx, vy) ∧ (∀ p ∈ l.take k, near 4000 p) ∧ SinceOf w wr)
  case atStart => exact ⟨0, none, 0, by omega, by omega, rfl, rfl, Owns.nil _ _ _ _ _, HV4.out.1, HV4.out.2, (fun p hp => by simp at hp), by (repeat (first | (with_reducible exact SinceOf.refl _) | (with_reducible assumption) | (with_reducible refine SinceOf.alloc ?_ _) | (with_reducible refine SinceOf.drew ?_) | (with_reducible refine SinceOf.drewN ?_ _) | (with_reducible refine SinceOf.later ?_ _) | (with_reducible refine SinceOf.further ?_ _) | (with_reducible refine SinceOf.setCell ?_ (by first | exact Nat.le_refl _ | (simp; done) | omega | (simp; omega)) _)))⟩
  case round =>
    obtain ⟨k, A2, c2, hk, hgas, rfl, rfl, ho, e1, e2, hnear, ⟨u, rfl⟩⟩ := hrel
    have d0 := e1.c0
    have d1 := e1.c1
    have q0 := e2.c0
    have q1 := e2.c1
    have hg1 := e1.lt
    have hg2 := e2.lt
    have hU1 : Nonempty (Old u.wd w.heap.size) := ⟨⟨by omega⟩⟩
    have hU2 : Nonempty (Old u.wd (w.heap.size + 1)) := ⟨⟨by omega⟩⟩
    simp only at d0 d1 q0 q1
    by_cases hlt : k < l.length
    · have hr0 := H.out.of (w' := u.wd) (by (repeat (first | (with_reducible exact SinceOf.refl _) | (with_reducible assumption) | (with_reducible refine SinceOf.alloc ?_ _) | (with_reducible refine SinceOf.drew ?_) | (with_reducible refine SinceOf.drewN ?_ _) | (with_reducible refine SinceOf.later ?_ _) | (with_reducible refine SinceOf.further ?_ _) | (with_reducible refine SinceOf.setCell ?_ (by first | exact Nat.le_refl _ | (simp; done) | omega | (simp; omega)) _))))
      obtain ⟨g, off, rfl, hr⟩ := hr0.at_ (by omega)
      have hO := hr.there
      have p0 := hr.v0 k hlt
      have p1 := hr.v1 k hlt
      have htk := List.take_succ_eq_append_getElem hlt
      have htl : (l.take k).length = k := by rw [List.length_take]; omega
      have N4 := refWithin_any l[k].1 l[k].2 4000
      have hn4 := near_within (x := l[k].1) (y := l[k].2) (m := 4000) (by omega)
      have AD := refAdd_any l[k].1 l[k].2 vx vy
      have hpf := near_far.1 (far_false HF.out (List.getElem_mem hlt))
      have hnv2 := HN.out.2
      unfold near at hpf hnv2
      simp only at hnv2
      rw [wadd_in (by omega), wadd_in (by omega)] at AD
      clear hnv2 hpf
      generalize l[k] = p at *
      obtain ⟨px, py⟩ := p
      simp only at p0 p1 N4 AD hn4
      cases hb : withinB px py 4000
      · rw [hb] at N4
        clear ho e1 e2 hnear htk hr hr0 hn4 hb
        go_wp2_with fail
        refine (N4 _).calls.mono ?_
        rintro e _ ⟨rfl, y1, rfl⟩
        go_wp2_with fail
        go_returns
        exact ⟨rfl, by (repeat (first | (with_reducible exact SinceOf.refl _) | (with_reducible assumption) | (with_reducible refine SinceOf.alloc ?_ _) | (with_reducible refine SinceOf.drew ?_) | (with_reducible refine SinceOf.drewN ?_ _) | (with_reducible refine SinceOf.later ?_ _) | (with_reducible refine SinceOf.further ?_ _) | (with_reducible refine SinceOf.setCell ?_ (by first | exact Nat.le_refl _ | (simp; done) | omega | (simp; omega)) _)))⟩
      · rw [hb] at N4
        have hnp := hn4.1 hb
        have HP := Lib.hid (And.intro ho (And.intro e1 (And.intro e2 (And.intro hnear (And.intro htk (And.intro htl hnp))))))
        clear ho e1 e2 hnear htk hr hr0 hn4 hb hnp
        have hml : ((l.take k).map (tr (vx, vy))).length = k := by rw [List.length_map]; exact htl
        clear htl
        obtain ⟨m, hm⟩ : ∃ m, m = (l.take k).map (tr (vx, vy)) := ⟨_, rfl⟩
        rw [← hm] at hml HP
        have hne1 : some w.heap.size ≠ blockOf A2 := fun e => by have := (HP.out.1.below _ e.symm).1; omega
        have hne2 : some (w.heap.size + 1) ≠ blockOf A2 := fun e => by have := (HP.out.1.below _ e.symm).1; omega
        have HM := Lib.hid hml
        have HMM := Lib.hid hm
        have hk30 : k ≤ 30 := by omega
        clear hml hm
        go_wp2_with fail
        refine (N4 _).calls.mono ?_
        rintro e _ ⟨rfl, y1, rfl⟩
        clear N4
        have hy1 := y1.size
        go_wp2_with fail
        go_region_law
          (first
            | (go_simp; go_at_call 27; refine (AD _).calls.mono ?_; rintro e _ ⟨rfl, z1, rfl⟩; (try dsimp only))
            | (refine step_append_row (by rfl) (.tmp 48) (.tmp 55) 22 (by rfl) encV_len (by omega) encV_one i0 _ 16 Try.underlying22 HI.out.1 HI.out.2.1 HI.out.2.2.1 HI.out.2.2.2 rfl (l := m) (A := A2) (c := c2) (base := w.heap.size + 2) (by rw [HM.out]; rfl) (HP.out.1.of (by (repeat (first | (with_reducible exact SinceOf.refl _) | (with_reducible assumption) | (with_reducible refine SinceOf.alloc ?_ _) | (with_reducible refine SinceOf.drew ?_) | (with_reducible refine SinceOf.drewN ?_ _) | (with_reducible refine SinceOf.later ?_ _) | (with_reducible refine SinceOf.further ?_ _) | (with_reducible refine SinceOf.setCell ?_ (by first | exact Nat.le_refl _ | (simp; done) | omega | (simp; omega)) _))))) (m := [(px + vx, py + vy)]) (by rfl) (isRow_atV _ _ _ _ (by first | rfl | simp)) (by rw [HM.out]; unfold maxLen; simp; omega) (by rw [HM.out]; simp; omega) (by have := z1.size; simp at this ⊢; omega) ?_; intro A3 c3 w4 ho3 hgr4 hb4))
        all_goals
          go_wp2_with fail
          go_roundg (l.length - (k + 1))
          case measure => omega
          case rel =>
            have sz1 := z1.size
            refine ⟨k + 1, A3, c3, hlt, Nat.le_refl _, (by rw [HM.out]), by go_num, ?_, (HP.out.2.1.of (W' := z1.wd.alloc (.cells #[.int .i64 (px + vx), .int .i64 (py + vy)] 32)) (by (repeat (first | (with_reducible exact SinceOf.refl _) | (with_reducible assumption) | (with_reducible refine SinceOf.alloc ?_ _) | (with_reducible refine SinceOf.drew ?_) | (with_reducible refine SinceOf.drewN ?_ _) | (with_reducible refine SinceOf.later ?_ _) | (with_reducible refine SinceOf.further ?_ _) | (with_reducible refine SinceOf.setCell ?_ (by first | exact Nat.le_refl _ | (simp; done) | omega | (simp; omega)) _))))).kept hgr4 hne1, (HP.out.2.2.1.of (W' := z1.wd.alloc (.cells #[.int .i64 (px + vx), .int .i64 (py + vy)] 32)) (by (repeat (first | (with_reducible exact SinceOf.refl _) | (with_reducible assumption) | (with_reducible refine SinceOf.alloc ?_ _) | (with_reducible refine SinceOf.drew ?_) | (with_reducible refine SinceOf.drewN ?_ _) | (with_reducible refine SinceOf.later ?_ _) | (with_reducible refine SinceOf.further ?_ _) | (with_reducible refine SinceOf.setCell ?_ (by first | exact Nat.le_refl _ | (simp; done) | omega | (simp; omega)) _))))).kept hgr4 hne2, ?_, SinceOf.grown (by (repeat (first | (with_reducible exact SinceOf.refl _) | (with_reducible assumption) | (with_reducible refine SinceOf.alloc ?_ _) | (with_reducible refine SinceOf.drew ?_) | (with_reducible refine SinceOf.drewN ?_ _) | (with_reducible refine SinceOf.later ?_ _) | (with_reducible refine SinceOf.further ?_ _) | (with_reducible refine SinceOf.setCell ?_ (by first | exact Nat.le_refl _ | (simp; done) | omega | (simp; omega)) _)))) hgr4 (fun q hq => by have := (HP.out.1.below q hq).1; omega)⟩
            · rw [HP.out.2.2.2.2.1, List.map_append, ← HMM.out]
              exact ho3
            · intro q hq
              rw [HP.out.2.2.2.2.1] at hq
              rcases List.mem_append.1 hq with hq | hq
              · exact HP.out.2.2.2.1 q hq
              · rw [show q = (px, py) by simpa using hq]; exact HP.out.2.2.2.2.2.2
    · have hkl : k = l.length := by omega
      subst hkl
      rw [List.take_length] at ho hnear
      obtain ⟨L, hL⟩ : ∃ L, L = l.map (tr (vx, vy)) := ⟨_, rfl⟩
      have hLl : L.length = l.length := by rw [hL, List.length_map]
      have hsL : smallB L = true := by
        unfold smallB
        simp only [Bool.and_eq_true, Bool.not_eq_true', decide_eq_true_eq]
        refine ⟨List.any_eq_false.2 fun q hq => ?_, by omega⟩
        rw [hL] at hq
        obtain ⟨p, hp, rfl⟩ := List.mem_map.1 hq
        have h4 := hnear p hp
        have h5 := HN.out.2
        rw [near_far.2 (by unfold near tr at *; simp only at *; omega)]
        decide
      rw [← hL] at ho
      have HB := hull_any A2 c2 L
      rw [hLl] at HB
      have HP := Lib.hid (And.intro ho (And.intro e1 (And.intro hnear (And.intro hL hsL))))
      clear ho e1 e2 hnear hL hsL q0 q1 hU2 hg2
      go_wp2_with fail
      refine (hull_any A c l _ (H.out.of (by (repeat (first | (with_reducible exact SinceOf.refl _) | (with_reducible assumption) | (with_reducible refine SinceOf.alloc ?_ _) | (with_reducible refine SinceOf.drew ?_) | (with_reducible refine SinceOf.drewN ?_ _) | (with_reducible refine SinceOf.later ?_ _) | (with_reducible refine SinceOf.further ?_ _) | (with_reducible refine SinceOf.setCell ?_ (by first | exact Nat.le_refl _ | (simp; done) | omega | (simp; omega)) _))))) (by omega)).mono ?_
      rintro e _ ⟨A3, c3, r, er, rfl, hv3, hr3, ⟨x1, rfl⟩⟩
      go_wp2_with fail
      refine (HB _ ((HP.out.1.isRow encV_len).of (by (repeat (first | (with_reducible exact SinceOf.refl _) | (with_reducible assumption) | (with_reducible refine SinceOf.alloc ?_ _) | (with_reducible refine SinceOf.drew ?_) | (with_reducible refine SinceOf.drewN ?_ _) | (with_reducible refine SinceOf.later ?_ _) | (with_reducible refine SinceOf.further ?_ _) | (with_reducible refine SinceOf.setCell ?_ (by first | exact Nat.le_refl _ | (simp; done) | omega | (simp; omega)) _))))) (by omega)).mono ?_
      rintro e _ ⟨A4, c4, s, es, rfl, hv4, hr4, ⟨x2, rfl⟩⟩
      clear HB
      have v1 : VarV x2.wd w.heap.size (dx, dy) := HP.out.2.1.of (by (repeat (first | (with_reducible exact SinceOf.refl _) | (with_reducible assumption) | (with_reducible refine SinceOf.alloc ?_ _) | (with_reducible refine SinceOf.drew ?_) | (with_reducible refine SinceOf.drewN ?_ _) | (with_reducible refine SinceOf.later ?_ _) | (with_reducible refine SinceOf.further ?_ _) | (with_reducible refine SinceOf.setCell ?_ (by first | exact Nat.le_refl _ | (simp; done) | omega | (simp; omega)) _))))
      have hv3' : IsVecs x2.wd A3 c3 r := hv3.of (by (repeat (first | (with_reducible exact SinceOf.refl _) | (with_reducible assumption) | (with_reducible refine SinceOf.alloc ?_ _) | (with_reducible refine SinceOf.drew ?_) | (with_reducible refine SinceOf.drewN ?_ _) | (with_reducible refine SinceOf.later ?_ _) | (with_reducible refine SinceOf.further ?_ _) | (with_reducible refine SinceOf.setCell ?_ (by first | exact Nat.le_refl _ | (simp; done) | omega | (simp; omega)) _))))
      obtain ⟨u5, hu5⟩ : SinceOf w x2.wd := by (repeat (first | (with_reducible exact SinceOf.refl _) | (with_reducible assumption) | (with_reducible refine SinceOf.alloc ?_ _) | (with_reducible refine SinceOf.drew ?_) | (with_reducible refine SinceOf.drewN ?_ _) | (with_reducible refine SinceOf.later ?_ _) | (with_reducible refine SinceOf.further ?_ _) | (with_reducible refine SinceOf.setCell ?_ (by first | exact Nat.le_refl _ | (simp; done) | omega | (simp; omega)) _)))
      rw [hu5] at v1 hv3' hv4 ⊢
      clear hu5 hv3 x2 x1 d0 d1 hU1 hg1
      have K1 := hr3.small HS.out
      have K2 := hr4.small HP.out.2.2.2.2
      clear hr3 hr4
      have hcase : (er = 11 ∧ es = 11) ∨ (er = 0 ∧ es = 0 ∧ HullY l r ∧ r.length ≤ l.length ∧ s = r.map (tr (vx, vy))) := by
        have hL := HP.out.2.2.2.1
        rcases K1 with ⟨e1, -, f1⟩ | ⟨e1, y1, l1⟩ <;> rcases K2 with ⟨e2, -, f2⟩ | ⟨e2, y2, l2⟩
        · exact .inl ⟨e1, e2⟩
        · rw [hL] at y2
          exact absurd (f1.moved (vx, vy)) (not_flat y2.hull)
        · rw [hL] at f2
          exact absurd f2 (not_flat (y1.moved (vx, vy)).hull)
        · rw [hL] at y2
          exact .inr ⟨e1, e2, y1, l1, y2.unique (y1.moved (vx, vy))⟩
      clear K1 K2
      rcases hcase with ⟨rfl, rfl⟩ | ⟨rfl, rfl, hy, hrl, rfl⟩
      · go_wp2_with fail
        go_returns
        exact ⟨rfl, by (repeat (first | (with_reducible exact SinceOf.refl _) | (with_reducible assumption) | (with_reducible refine SinceOf.alloc ?_ _) | (with_reducible refine SinceOf.drew ?_) | (with_reducible refine SinceOf.drewN ?_ _) | (with_reducible refine SinceOf.later ?_ _) | (with_reducible refine SinceOf.further ?_ _) | (with_reducible refine SinceOf.setCell ?_ (by first | exact Nat.le_refl _ | (simp; done) | omega | (simp; omega)) _)))⟩
      · obtain ⟨W, a, b, e1, e2, e3, e4, e5, e6, e7⟩ := width_law HF.out HP.out.2.2.1 HN.out.1 HN.out.2 hy (by omega)
        have hsl : (r.map (tr (vx, vy))).length < 4611686018427387904 := by rw [List.length_map]; omega
        generalize r.map (tr (vx, vy)) = s at *
        have W1 := width_any A3 c3 r dx dy
        have W2 := width_any A4 c4 s dx dy
        have F1 := farthest_any A3 c3 r dx dy
        have F2 := farthest_any A3 c3 r (-dx) (-dy)
        have NG := refNeg_any dx dy
        have hnd := HN.out.1
        unfold near at hnd
        simp only at hnd
        rw [wneg_in (by omega), wneg_in (by omega)] at NG
        rw [e1] at W1
        rw [e2] at W2
        rw [e3] at F1
        rw [e4] at F2
        obtain ⟨ax, ay⟩ := a
        obtain ⟨bx, by_⟩ := b
        simp only at F1 F2 W1 W2 e5
        have SB := refSub_any ax ay bx by_
        have DT := refDot_any dx dy (wsub ax bx) (wsub ay by_)
        have HA := has10_any A3 c3 r ax ay
        rw [hasP_iff.2 e7] at HA
        have gW : (W == dotI dx dy (wsub ax bx) (wsub ay by_)) = true := by simpa using e5
        generalize dotI dx dy (wsub ax bx) (wsub ay by_) = D at *
        have g6 : decide (0 ≤ W) = true := decide_eq_true e6
        have HR := Lib.hid (And.intro v1 (And.intro hv3' hv4))
        have d0 := v1.c0
        have d1 := v1.c1
        have hg1 := v1.lt
        have hU1 : Nonempty (Old u5.wd w.heap.size) := ⟨⟨by omega⟩⟩
        simp only at d0 d1
        clear e1 e2 e3 e4 e5 e6 e7 hnd v1 hv3' hv4 hy
        go_wp2_with fail
        refine (W1 _ (HR.out.2.1.of (by (repeat (first | (with_reducible exact SinceOf.refl _) | (with_reducible assumption) | (with_reducible refine SinceOf.alloc ?_ _) | (with_reducible refine SinceOf.drew ?_) | (with_reducible refine SinceOf.drewN ?_ _) | (with_reducible refine SinceOf.later ?_ _) | (with_reducible refine SinceOf.further ?_ _) | (with_reducible refine SinceOf.setCell ?_ (by first | exact Nat.le_refl _ | (simp; done) | omega | (simp; omega)) _))))) (by omega)).mono ?_
        rintro e _ ⟨rfl, ⟨x1, rfl⟩⟩
        clear W1
        go_wp2_with fail
        refine (W2 _ (HR.out.2.2.of (by (repeat (first | (with_reducible exact SinceOf.refl _) | (with_reducible assumption) | (with_reducible refine SinceOf.alloc ?_ _) | (with_reducible refine SinceOf.drew ?_) | (with_reducible refine SinceOf.drewN ?_ _) | (with_reducible refine SinceOf.later ?_ _) | (with_reducible refine SinceOf.further ?_ _) | (with_reducible refine SinceOf.setCell ?_ (by first | exact Nat.le_refl _ | (simp; done) | omega | (simp; omega)) _))))) hsl).mono ?_
        rintro e _ ⟨rfl, ⟨x2, rfl⟩⟩
        clear W2
        go_wp2_with fail
        refine (F1 _ (HR.out.2.1.of (by (repeat (first | (with_reducible exact SinceOf.refl _) | (with_reducible assumption) | (with_reducible refine SinceOf.alloc ?_ _) | (with_reducible refine SinceOf.drew ?_) | (with_reducible refine SinceOf.drewN ?_ _) | (with_reducible refine SinceOf.later ?_ _) | (with_reducible refine SinceOf.further ?_ _) | (with_reducible refine SinceOf.setCell ?_ (by first | exact Nat.le_refl _ | (simp; done) | omega | (simp; omega)) _))))) (by omega)).mono ?_
        rintro e _ ⟨rfl, ⟨x3, rfl⟩⟩
        clear F1
        have v1 : VarV x3.wd w.heap.size (dx, dy) := HR.out.1.of (by (repeat (first | (with_reducible exact SinceOf.refl _) | (with_reducible assumption) | (with_reducible refine SinceOf.alloc ?_ _) | (with_reducible refine SinceOf.drew ?_) | (with_reducible refine SinceOf.drewN ?_ _) | (with_reducible refine SinceOf.later ?_ _) | (with_reducible refine SinceOf.further ?_ _) | (with_reducible refine SinceOf.setCell ?_ (by first | exact Nat.le_refl _ | (simp; done) | omega | (simp; omega)) _))))
        have hv3 : IsVecs x3.wd A3 c3 r := HR.out.2.1.of (by (repeat (first | (with_reducible exact SinceOf.refl _) | (with_reducible assumption) | (with_reducible refine SinceOf.alloc ?_ _) | (with_reducible refine SinceOf.drew ?_) | (with_reducible refine SinceOf.drewN ?_ _) | (with_reducible refine SinceOf.later ?_ _) | (with_reducible refine SinceOf.further ?_ _) | (with_reducible refine SinceOf.setCell ?_ (by first | exact Nat.le_refl _ | (simp; done) | omega | (simp; omega)) _))))
        obtain ⟨u6, hu6⟩ : SinceOf w x3.wd := by (repeat (first | (with_reducible exact SinceOf.refl _) | (with_reducible assumption) | (with_reducible refine SinceOf.alloc ?_ _) | (with_reducible refine SinceOf.drew ?_) | (with_reducible refine SinceOf.drewN ?_ _) | (with_reducible refine SinceOf.later ?_ _) | (with_reducible refine SinceOf.further ?_ _) | (with_reducible refine SinceOf.setCell ?_ (by first | exact Nat.le_refl _ | (simp; done) | omega | (simp; omega)) _)))
        rw [hu6] at v1 hv3 ⊢
        have HQ := Lib.hid (And.intro v1 hv3)
        clear hu6 x3 x2 x1 d0 d1 hU1 hg1
        have d0 := v1.c0
        have d1 := v1.c1
        have hg1 := v1.lt
        have hU1 : Nonempty (Old u6.wd w.heap.size) := ⟨⟨by omega⟩⟩
        simp only at d0 d1
        clear v1 hv3
        go_wp2_with fail
        refine (NG _).calls.mono ?_
        rintro e _ ⟨rfl, x4, rfl⟩
        clear NG
        go_wp2_with fail
        refine (F2 _ (HQ.out.2.of (by (repeat (first | (with_reducible exact SinceOf.refl _) | (with_reducible assumption) | (with_reducible refine SinceOf.alloc ?_ _) | (with_reducible refine SinceOf.drew ?_) | (with_reducible refine SinceOf.drewN ?_ _) | (with_reducible refine SinceOf.later ?_ _) | (with_reducible refine SinceOf.further ?_ _) | (with_reducible refine SinceOf.setCell ?_ (by first | exact Nat.le_refl _ | (simp; done) | omega | (simp; omega)) _))))) (by omega)).mono ?_
        rintro e _ ⟨rfl, ⟨x5, rfl⟩⟩
        clear F2
        have v1 : VarV x5.wd w.heap.size (dx, dy) := HQ.out.1.of (by (repeat (first | (with_reducible exact SinceOf.refl _) | (with_reducible assumption) | (with_reducible refine SinceOf.alloc ?_ _) | (with_reducible refine SinceOf.drew ?_) | (with_reducible refine SinceOf.drewN ?_ _) | (with_reducible refine SinceOf.later ?_ _) | (with_reducible refine SinceOf.further ?_ _) | (with_reducible refine SinceOf.setCell ?_ (by first | exact Nat.le_refl _ | (simp; done) | omega | (simp; omega)) _))))
        have v2 : VarV x5.wd u6.wd.heap.size (ax, ay) := (VarV.new u6.wd ax ay 32).of (by (repeat (first | (with_reducible exact SinceOf.refl _) | (with_reducible assumption) | (with_reducible refine SinceOf.alloc ?_ _) | (with_reducible refine SinceOf.drew ?_) | (with_reducible refine SinceOf.drewN ?_ _) | (with_reducible refine SinceOf.later ?_ _) | (with_reducible refine SinceOf.further ?_ _) | (with_reducible refine SinceOf.setCell ?_ (by first | exact Nat.le_refl _ | (simp; done) | omega | (simp; omega)) _))))
        have hv3 : IsVecs x5.wd A3 c3 r := HQ.out.2.of (by (repeat (first | (with_reducible exact SinceOf.refl _) | (with_reducible assumption) | (with_reducible refine SinceOf.alloc ?_ _) | (with_reducible refine SinceOf.drew ?_) | (with_reducible refine SinceOf.drewN ?_ _) | (with_reducible refine SinceOf.later ?_ _) | (with_reducible refine SinceOf.further ?_ _) | (with_reducible refine SinceOf.setCell ?_ (by first | exact Nat.le_refl _ | (simp; done) | omega | (simp; omega)) _))))
        generalize u6.wd.heap.size = ga at *
        obtain ⟨u7, hu7⟩ : SinceOf w x5.wd := by (repeat (first | (with_reducible exact SinceOf.refl _) | (with_reducible assumption) | (with_reducible refine SinceOf.alloc ?_ _) | (with_reducible refine SinceOf.drew ?_) | (with_reducible refine SinceOf.drewN ?_ _) | (with_reducible refine SinceOf.later ?_ _) | (with_reducible refine SinceOf.further ?_ _) | (with_reducible refine SinceOf.setCell ?_ (by first | exact Nat.le_refl _ | (simp; done) | omega | (simp; omega)) _)))
        rw [hu7] at v1 v2 hv3 ⊢
        have HQ2 := Lib.hid hv3
        clear hu7 x5 x4 d0 d1 hU1 hg1 HQ HR
        have d0 := v1.c0
        have d1 := v1.c1
        have hg1 := v1.lt
        have q0 := v2.c0
        have q1 := v2.c1
        have hg2 := v2.lt
        have hU1 : Nonempty (Old u7.wd w.heap.size) := ⟨⟨by omega⟩⟩
        have hU2 : Nonempty (Old u7.wd ga) := ⟨⟨by omega⟩⟩
        simp only at d0 d1 q0 q1
        clear v1 v2 hv3
        go_wp2_with fail
        refine region_later (by kernel_rfl) (by kernel_rfl) ?_
        repeat (go_big_quiet_step ((first | with_reducible refine Gives.later (SB _) | with_reducible refine Gives.later (DT _) | with_reducible refine Gives.later (HA _ (HQ2.out.of (by (repeat (first | (with_reducible exact SinceOf.refl _) | (with_reducible assumption) | (with_reducible refine SinceOf.alloc ?_ _) | (with_reducible refine SinceOf.drew ?_) | (with_reducible refine SinceOf.drewN ?_ _) | (with_reducible refine SinceOf.later ?_ _) | (with_reducible refine SinceOf.further ?_ _) | (with_reducible refine SinceOf.setCell ?_ (by first | exact Nat.le_refl _ | (simp; done) | omega | (simp; omega)) _))))) (by omega)))))
        refine wpQuiet_nil ?_
        rintro _ ⟨z4, rfl⟩
        go_wp2_with fail
        go_returns
        exact ⟨rfl, by (repeat (first | (with_reducible exact SinceOf.refl _) | (with_reducible assumption) | (with_reducible refine SinceOf.alloc ?_ _) | (with_reducible refine SinceOf.drew ?_) | (with_reducible refine SinceOf.drewN ?_ _) | (with_reducible refine SinceOf.later ?_ _) | (with_reducible refine SinceOf.further ?_ _) | (with_reducible refine SinceOf.setCell ?_ (by first | exact Nat.le_refl _ | (simp; done) | omega | (simp; omega)) _)))⟩
end Go.Proofs.Yticmfmcflikneaa
