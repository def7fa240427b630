/- Layer 10: the reference's Hull. -/
import Derived.Test.YticmfmcflikneaaHull11
namespace Go.Proofs.Yticmfmcflikneaa
open Go.RowKit Go.Sort
set_option linter.unusedVariables false
attribute [local go_sem ↓] Go.wp_at_zero Go.wp_at_succ

theorem lessB_lexy (p q : Pt) : lessB p.1 p.2 q.1 q.2 = true ↔ lexy p q := by
  unfold lessB lexy
  simp only [Bool.or_eq_true, Bool.and_eq_true, decide_eq_true_eq, beq_iff_eq]
theorem hull_exists {l : List Pt} (hf : l.any farB = false) (hn : ¬ Flat l) : ∃ h, HullY l h ∧ h.length ≤ 2 * l.length := by
  have h1 : ¬ (lowX l).length < 2 := fun h => hn (hull_flat hf (.inl h))
  have h2 : ¬ (lowX l).length + (uppX l).length - 2 < 3 := fun h => hn (hull_flat hf (.inr h))
  have q := hull_is hf h1 h2
  have h3 := q.three
  obtain ⟨k, hk, ha⟩ := least_at ((lowX l).dropLast ++ (uppX l).dropLast) ((lowX l).dropLast ++ (uppX l).dropLast).length (by omega) (Nat.le_refl _)
  refine ⟨_, begin_hull (fun p hp => (far_bounds hf p hp).1) q hk ha, ?_⟩
  rw [rotL_length (by omega), List.length_append, List.length_dropLast, List.length_dropLast]
  have b1 : (lowX l).length ≤ l.length := Nat.le_trans (lowC_len _) (xpts_len l)
  have b2 : (uppX l).length ≤ l.length := Nat.le_trans (lowC_len _) (by rw [List.length_reverse]; exact xpts_len l)
  omega
theorem first_is {l h : List Pt} (hy : HullY l h) {b : Pt} (hb : b ∈ l) (hl : ∀ q ∈ l, ¬ lexy q b) : b = at0 h 0 := by
  have h3 := hy.hull.three
  rcases hy.first b hb with e | e
  · exact e.symm
  · exact absurd e (hl _ (hy.hull.sub _ (at0_mem (by omega))))
theorem VarV.kept {W W' : World} {g : Nat} {p : Pt} {row : Option Nat} (h : VarV W g p) (hg : W.grownBy W' row) (hne : some g ≠ row) : VarV W' g p := by
  have b := hg.block g h.lt hne
  exact ⟨(World.cell?_of_block b).trans h.c0, (World.cell?_of_block b).trans h.c1, (World.frozen?_of_block b).trans h.f0, (World.frozen?_of_block b).trans h.f1, Nat.lt_of_lt_of_le h.lt hg.size⟩
set_option maxRecDepth 100000 in
set_option maxHeartbeats 16000000 in
theorem refHull_new (A : Option Addr) (c : Nat) (l : List (Int × Int)) (w : World) (h : IsVecs w A c l) (hlen : l.length < 4611686018427387904) :
    Calls Try.prog 23 #[.slice A l.length c] w fun e w' => ∃ A' c' r err, e = .returned (.tuple #[.slice A' r.length c', .int .i64 err]) ∧ IsVecs w' A' c' r ∧ HullRes l r err ∧ SinceOf w w' ∧ FreshA w A' := by
  have HL := Lib.hid h
  clear h
  by_cases hn : 400 < l.length
  · go_enter Try.func23, Try.ntmps23
    go_wp2_with fail
    go_returns
    exact ⟨none, 0, [], 9, rfl, IsRow.nil _ _ _, .inl ⟨hn, rfl, rfl⟩, by (repeat (first | (with_reducible exact SinceOf.refl _) | (with_reducible assumption) | (with_reducible refine SinceOf.alloc ?_ _) | (with_reducible refine SinceOf.drew ?_) | (with_reducible refine SinceOf.drewN ?_ _) | (with_reducible refine SinceOf.later ?_ _) | (with_reducible refine SinceOf.further ?_ _) | (with_reducible refine SinceOf.setCell ?_ (by first | exact Nat.le_refl _ | (simp; done) | omega | (simp; omega)) _))), FreshA.none _⟩
  have hn' : l.length ≤ 400 := by omega
  have N := fun W (h : IsVecs W A c l) => refNear_any A c l W h (by omega)
  by_cases hf : l.any farB = true
  · rw [hf] at N
    have HF := Lib.hid hf
    clear hf
    go_enter Try.func23, Try.ntmps23
    go_wp2_with fail
    refine (N _ HL.out).calls.mono ?_
    rintro e _ ⟨rfl, x1, rfl⟩
    go_wp2_with fail
    go_returns
    exact ⟨none, 0, [], 2, rfl, IsRow.nil _ _ _, .inr (.inl ⟨hn', HF.out, rfl, rfl⟩), by (repeat (first | (with_reducible exact SinceOf.refl _) | (with_reducible assumption) | (with_reducible refine SinceOf.alloc ?_ _) | (with_reducible refine SinceOf.drew ?_) | (with_reducible refine SinceOf.drewN ?_ _) | (with_reducible refine SinceOf.later ?_ _) | (with_reducible refine SinceOf.further ?_ _) | (with_reducible refine SinceOf.setCell ?_ (by first | exact Nat.le_refl _ | (simp; done) | omega | (simp; omega)) _))), FreshA.none _⟩
  have hf' : l.any farB = false := by simpa using hf
  rw [hf'] at N
  have C := fun W (h : IsVecs W A c l) => collinear_any A c l W h hf' hn'
  have HF := Lib.hid hf'
  clear hf hf'
  obtain ⟨i0, hi, hz0, hz1, hz2⟩ := info_parts infoVec
  have HI := Lib.hid (And.intro hi (And.intro hz0 (And.intro hz1 hz2)))
  clear hi hz0 hz1 hz2
  go_enter Try.func23, Try.ntmps23
  go_wp2_with fail
  refine (N _ HL.out).calls.mono ?_
  rintro e _ ⟨rfl, x1, rfl⟩
  go_wp2_with fail
  refine (C _ (HL.out.of (by (repeat (first | (with_reducible exact SinceOf.refl _) | (with_reducible assumption) | (with_reducible refine SinceOf.alloc ?_ _) | (with_reducible refine SinceOf.drew ?_) | (with_reducible refine SinceOf.drewN ?_ _) | (with_reducible refine SinceOf.later ?_ _) | (with_reducible refine SinceOf.further ?_ _) | (with_reducible refine SinceOf.setCell ?_ (by first | exact Nat.le_refl _ | (simp; done) | omega | (simp; omega)) _)))))).mono ?_
  rintro e _ ⟨bb, rfl, hbb, x2, rfl⟩
  clear C N
  by_cases hfl : Flat l
  · have hb1 : bb = true := hbb.2 hfl
    have HB := Lib.hid hfl
    subst hb1
    clear hfl hbb
    go_wp2_with fail
    go_returns
    exact ⟨none, 0, [], 11, rfl, IsRow.nil _ _ _, .inr (.inr (.inl ⟨hn', HF.out, HB.out, rfl, rfl⟩)), by (repeat (first | (with_reducible exact SinceOf.refl _) | (with_reducible assumption) | (with_reducible refine SinceOf.alloc ?_ _) | (with_reducible refine SinceOf.drew ?_) | (with_reducible refine SinceOf.drewN ?_ _) | (with_reducible refine SinceOf.later ?_ _) | (with_reducible refine SinceOf.further ?_ _) | (with_reducible refine SinceOf.setCell ?_ (by first | exact Nat.le_refl _ | (simp; done) | omega | (simp; omega)) _))), FreshA.none _⟩
  have hb1 : bb = false := by cases bb with
    | false => rfl
    | true => exact absurd (hbb.1 rfl) hfl
  subst hb1
  clear hbb
  obtain ⟨h, hy, hh2⟩ := hull_exists HF.out hfl
  have h3 := hy.hull.three
  have hpos : 0 < l.length := by
    rcases Nat.eq_zero_or_pos l.length with e | e
    · exfalso
      have := hy.hull.sub _ (at0_mem (show 0 < h.length by omega))
      rw [List.length_eq_zero_iff.1 e] at this
      cases this
    · exact e
  have HY := Lib.hid hy
  clear hfl hy
  obtain ⟨v, hv⟩ : SinceOf w x2.wd := by (repeat (first | (with_reducible exact SinceOf.refl _) | (with_reducible assumption) | (with_reducible refine SinceOf.alloc ?_ _) | (with_reducible refine SinceOf.drew ?_) | (with_reducible refine SinceOf.drewN ?_ _) | (with_reducible refine SinceOf.later ?_ _) | (with_reducible refine SinceOf.further ?_ _) | (with_reducible refine SinceOf.setCell ?_ (by first | exact Nat.le_refl _ | (simp; done) | omega | (simp; omega)) _)))
  rw [hv]
  clear hv
  clear x2 x1
  have hr0 := HL.out.of (w' := v.wd) (by (repeat (first | (with_reducible exact SinceOf.refl _) | (with_reducible assumption) | (with_reducible refine SinceOf.alloc ?_ _) | (with_reducible refine SinceOf.drew ?_) | (with_reducible refine SinceOf.drewN ?_ _) | (with_reducible refine SinceOf.later ?_ _) | (with_reducible refine SinceOf.further ?_ _) | (with_reducible refine SinceOf.setCell ?_ (by first | exact Nat.le_refl _ | (simp; done) | omega | (simp; omega)) _))))
  obtain ⟨g, off, rfl, hr⟩ := hr0.at_ hpos
  have hO := hr.there
  have a0 := hr.v0 0 hpos
  have a1 := hr.v1 0 hpos
  simp only [Nat.zero_mul, Nat.add_zero] at a0 a1
  have hb0 : at0 l 0 = l[0] := at0_eq hpos
  generalize l[0] = b0 at *
  obtain ⟨bx, by_⟩ := b0
  simp only at a0 a1
  have HB := Lib.hid (And.intro hb0 hr0)
  have hvs := v.size
  clear hb0 hr0 hr
  go_wp2_with fail
  generalize hgb : v.wd.heap.size = gb at *
  go_loopg [5] l.length (fun gas s5 wr => ∃ (i : Nat) (b : Pt), i ≤ l.length ∧ l.length - i ≤ gas ∧ s5 = .int .i64 i ∧ VarV wr gb b ∧ SinceOf w wr ∧ b ∈ l ∧ ∀ j, j < i → ¬ lexy (at0 l j) b)
  case atStart => exact ⟨0, (bx, by_), by omega, by omega, rfl, by rw [← hgb]; exact VarV.new _ _ _ _, by (repeat (first | (with_reducible exact SinceOf.refl _) | (with_reducible assumption) | (with_reducible refine SinceOf.alloc ?_ _) | (with_reducible refine SinceOf.drew ?_) | (with_reducible refine SinceOf.drewN ?_ _) | (with_reducible refine SinceOf.later ?_ _) | (with_reducible refine SinceOf.further ?_ _) | (with_reducible refine SinceOf.setCell ?_ (by first | exact Nat.le_refl _ | (simp; done) | omega | (simp; omega)) _))), by rw [← HB.out.1]; exact at0_mem hpos, fun j hj => by omega⟩
  case round =>
    obtain ⟨i, b, hi, hgas, rfl, e1, ⟨u, rfl⟩, hbl, hall⟩ := hrel
    have d0 := e1.c0
    have d1 := e1.c1
    have f0 := e1.f0
    have f1 := e1.f1
    have hg1 := e1.lt
    have hU1 : Nonempty (Old u.wd gb) := ⟨⟨by omega⟩⟩
    by_cases hlt : i < l.length
    · have hr0 := HL.out.of (w' := u.wd) (by (repeat (first | (with_reducible exact SinceOf.refl _) | (with_reducible assumption) | (with_reducible refine SinceOf.alloc ?_ _) | (with_reducible refine SinceOf.drew ?_) | (with_reducible refine SinceOf.drewN ?_ _) | (with_reducible refine SinceOf.later ?_ _) | (with_reducible refine SinceOf.further ?_ _) | (with_reducible refine SinceOf.setCell ?_ (by first | exact Nat.le_refl _ | (simp; done) | omega | (simp; omega)) _))))
      obtain ⟨g', off', he, hr⟩ := hr0.at_ (by omega)
      injection he with he
      injection he with hg1 ho1
      subst hg1 ho1
      have hO' := hr.there
      have x0 := hr.v0 i hlt
      have x1 := hr.v1 i hlt
      have L := refLess_any l[i].1 l[i].2 b.1 b.2
      have hL := lessB_lexy l[i] b
      have hxi : at0 l i = l[i] := at0_eq hlt
      have hxl : l[i] ∈ l := List.getElem_mem hlt
      generalize l[i] = x at *
      obtain ⟨xx, xy⟩ := x
      obtain ⟨bx, by_⟩ := b
      simp only at x0 x1 d0 d1 L hL
      have HE := Lib.hid (And.intro e1 (And.intro hbl (And.intro hall (And.intro hxi (And.intro hxl hL)))))
      clear e1 hbl hall hxi hxl hL hr hr0
      generalize hlb : lessB xx xy bx by_ = lb at *
      cases lb
      · have HX := Lib.hid hlb
        clear hlb
        go_wp2_with fail
        refine region_later (by kernel_rfl) (by kernel_rfl) ?_
        repeat (go_big_quiet_step ((with_reducible refine Gives.later (L _))))
        refine wpQuiet_nil ?_
        rintro _ ⟨z4, rfl⟩
        go_wp2_with fail
        go_roundg (l.length - (i + 1))
        case measure => omega
        case rel =>
          refine ⟨i + 1, (bx, by_), hlt, Nat.le_refl _, by go_num, HE.out.1.of (by (repeat (first | (with_reducible exact SinceOf.refl _) | (with_reducible assumption) | (with_reducible refine SinceOf.alloc ?_ _) | (with_reducible refine SinceOf.drew ?_) | (with_reducible refine SinceOf.drewN ?_ _) | (with_reducible refine SinceOf.later ?_ _) | (with_reducible refine SinceOf.further ?_ _) | (with_reducible refine SinceOf.setCell ?_ (by first | exact Nat.le_refl _ | (simp; done) | omega | (simp; omega)) _)))), by (repeat (first | (with_reducible exact SinceOf.refl _) | (with_reducible assumption) | (with_reducible refine SinceOf.alloc ?_ _) | (with_reducible refine SinceOf.drew ?_) | (with_reducible refine SinceOf.drewN ?_ _) | (with_reducible refine SinceOf.later ?_ _) | (with_reducible refine SinceOf.further ?_ _) | (with_reducible refine SinceOf.setCell ?_ (by first | exact Nat.le_refl _ | (simp; done) | omega | (simp; omega)) _))), HE.out.2.1, fun j hj => ?_⟩
          by_cases e : j = i
          · subst e
            rw [HE.out.2.2.2.1]
            intro hl
            have := HE.out.2.2.2.2.2.2 hl
            cases this
          · exact HE.out.2.2.1 j (by omega)
      · have HX := Lib.hid hlb
        clear hlb
        go_wp2_with fail
        refine region_later (by kernel_rfl) (by kernel_rfl) ?_
        repeat (go_big_quiet_step ((with_reducible refine Gives.later (L _))))
        refine wpQuiet_nil ?_
        rintro _ ⟨z4, rfl⟩
        go_wp2_with fail
        go_roundg (l.length - (i + 1))
        case measure => omega
        case rel =>
          have hxb := HE.out.2.2.2.2.2.1 (by first | rfl | trivial)
          refine ⟨i + 1, (xx, xy), hlt, Nat.le_refl _, by go_num, (HE.out.1.of (by (repeat (first | (with_reducible exact SinceOf.refl _) | (with_reducible assumption) | (with_reducible refine SinceOf.alloc ?_ _) | (with_reducible refine SinceOf.drew ?_) | (with_reducible refine SinceOf.drewN ?_ _) | (with_reducible refine SinceOf.later ?_ _) | (with_reducible refine SinceOf.further ?_ _) | (with_reducible refine SinceOf.setCell ?_ (by first | exact Nat.le_refl _ | (simp; done) | omega | (simp; omega)) _))))).put _ _, SinceOf.setCell (SinceOf.setCell (by (repeat (first | (with_reducible exact SinceOf.refl _) | (with_reducible assumption) | (with_reducible refine SinceOf.alloc ?_ _) | (with_reducible refine SinceOf.drew ?_) | (with_reducible refine SinceOf.drewN ?_ _) | (with_reducible refine SinceOf.later ?_ _) | (with_reducible refine SinceOf.further ?_ _) | (with_reducible refine SinceOf.setCell ?_ (by first | exact Nat.le_refl _ | (simp; done) | omega | (simp; omega)) _)))) (by simp; omega) _) (by simp; omega) _, HE.out.2.2.2.2.1, fun j hj => ?_⟩
          by_cases e : j = i
          · subst e
            rw [HE.out.2.2.2.1]
            exact fun hl => hl.asymm hl
          · exact fun hl => HE.out.2.2.1 j (by omega) (lexy_trans hl hxb)
    · have hil : i = l.length := by omega
      subst hil
      have hbf : b = at0 h 0 := first_is HY.out hbl (fun q hq => by
        obtain ⟨j, hj, rfl⟩ := List.getElem_of_mem hq
        rw [← at0_eq hj]
        exact hall j hj)
      clear hall hbl
      have NX : ∀ k, k < h.length → ∀ W, IsVecs W (some ⟨g, off, none⟩) c l → Calls Try.prog 73 #[.slice (some ⟨g, off, none⟩) l.length c, vv (at0 h k).1 (at0 h k).2] W fun e w' => e = .returned (vv (rv h (k + 1)).1 (rv h (k + 1)).2) ∧ SinceOf W w' := fun k hk W hW => by
        have hm : at0 h k ∈ l := HY.out.hull.sub _ (at0_mem hk)
        have hfk : farB (at0 h k) = false := by simpa using List.any_eq_false.1 HF.out _ hm
        refine (next_any _ c l (at0 h k).1 (at0 h k).2 W hW HF.out hfk hn').mono ?_
        rintro e w' ⟨rfl, -, hs⟩
        rw [show ((at0 h k).1, (at0 h k).2) = at0 h k from rfl, next_hull HY.out.hull hk]
        exact ⟨rfl, hs⟩
      have NX0 := NX 0 (by omega)
      rw [← hbf] at NX0
      have hl1 : h.take 1 = [b] := by
        rw [hbf, at0_eq (by omega)]
        match h, h3 with
        | x :: r, _ => rfl
      obtain ⟨fx, fy⟩ := b
      simp only at d0 d1 NX0
      have HE := Lib.hid (And.intro e1 hl1)
      have hus := u.size
      clear e1 hl1
      generalize hp1 : rv h (0 + 1) = p1 at *
      obtain ⟨p1x, p1y⟩ := p1
      simp only at NX0
      go_wp2_with fail
      refine (NX0 _ (HL.out.of (by (repeat (first | (with_reducible exact SinceOf.refl _) | (with_reducible assumption) | (with_reducible refine SinceOf.alloc ?_ _) | (with_reducible refine SinceOf.drew ?_) | (with_reducible refine SinceOf.drewN ?_ _) | (with_reducible refine SinceOf.later ?_ _) | (with_reducible refine SinceOf.further ?_ _) | (with_reducible refine SinceOf.setCell ?_ (by first | exact Nat.le_refl _ | (simp; done) | omega | (simp; omega)) _)))))).mono ?_
      rintro e _ ⟨rfl, ⟨x3, rfl⟩⟩
      clear NX0
      have hxs := x3.size
      simp only [World.size_alloc] at hxs
      have hO0 : OwnVecs u.wd.heap.size (u.wd.alloc (.cells #[.int .i64 fx, .int .i64 fy] 32)) (some ⟨u.wd.heap.size, 0, none⟩) 1 [(fx, fy)] := World.ownsRow_lit u.wd _ 1 (Nat.le_refl _) (by decide) rfl
      have o1 := hO0.of (w' := x3.wd) (by (repeat (first | (with_reducible exact SinceOf.refl _) | (with_reducible assumption) | (with_reducible refine SinceOf.alloc ?_ _) | (with_reducible refine SinceOf.drew ?_) | (with_reducible refine SinceOf.drewN ?_ _) | (with_reducible refine SinceOf.later ?_ _) | (with_reducible refine SinceOf.further ?_ _) | (with_reducible refine SinceOf.setCell ?_ (by first | exact Nat.le_refl _ | (simp; done) | omega | (simp; omega)) _))))
      have o2 : VarV x3.wd gb (fx, fy) := HE.out.1.of (by (repeat (first | (with_reducible exact SinceOf.refl _) | (with_reducible assumption) | (with_reducible refine SinceOf.alloc ?_ _) | (with_reducible refine SinceOf.drew ?_) | (with_reducible refine SinceOf.drewN ?_ _) | (with_reducible refine SinceOf.later ?_ _) | (with_reducible refine SinceOf.further ?_ _) | (with_reducible refine SinceOf.setCell ?_ (by first | exact Nat.le_refl _ | (simp; done) | omega | (simp; omega)) _))))
      generalize u.wd.heap.size = B0 at *
      obtain ⟨v3, hv3⟩ : SinceOf w x3.wd := by (repeat (first | (with_reducible exact SinceOf.refl _) | (with_reducible assumption) | (with_reducible refine SinceOf.alloc ?_ _) | (with_reducible refine SinceOf.drew ?_) | (with_reducible refine SinceOf.drewN ?_ _) | (with_reducible refine SinceOf.later ?_ _) | (with_reducible refine SinceOf.further ?_ _) | (with_reducible refine SinceOf.setCell ?_ (by first | exact Nat.le_refl _ | (simp; done) | omega | (simp; omega)) _)))
      rw [hv3] at o1 o2 hxs ⊢
      clear hv3 hO0
      clear x3
      have HO := Lib.hid (And.intro o1 (And.intro o2 (And.intro HE.out.2 (And.intro hbf hp1))))
      clear o1 o2 hbf hp1
      clear HE d0 d1 f0 f1 hU1
      clear u
      have hvs3 := v3.size
      go_wp2_with fail
      go_loopg [6, 7] h.length (fun gas s6 s7 wr => ∃ (k : Nat) (A2 : Option Addr) (c2 gq : Nat), 1 ≤ k ∧ k ≤ h.length ∧ h.length - k ≤ gas ∧ s6 = .slice A2 k c2 ∧ s7 = .pointer (some ⟨gq, 0, none⟩) ∧ OwnVecs B0 wr A2 c2 (h.take k) ∧ VarV wr gq (rv h k) ∧ VarV wr gb (fx, fy) ∧ B0 < gq ∧ blockOf A2 ≠ some gq ∧ SinceOf w wr)
      case atStart =>
        refine ⟨1, _, 1, v3.wd.heap.size, Nat.le_refl _, by omega, by omega, rfl, rfl, ?_, ?_, HO.out.2.1.of (by (repeat (first | (with_reducible exact SinceOf.refl _) | (with_reducible assumption) | (with_reducible refine SinceOf.alloc ?_ _) | (with_reducible refine SinceOf.drew ?_) | (with_reducible refine SinceOf.drewN ?_ _) | (with_reducible refine SinceOf.later ?_ _) | (with_reducible refine SinceOf.further ?_ _) | (with_reducible refine SinceOf.setCell ?_ (by first | exact Nat.le_refl _ | (simp; done) | omega | (simp; omega)) _)))), by omega, ?_, by (repeat (first | (with_reducible exact SinceOf.refl _) | (with_reducible assumption) | (with_reducible refine SinceOf.alloc ?_ _) | (with_reducible refine SinceOf.drew ?_) | (with_reducible refine SinceOf.drewN ?_ _) | (with_reducible refine SinceOf.later ?_ _) | (with_reducible refine SinceOf.further ?_ _) | (with_reducible refine SinceOf.setCell ?_ (by first | exact Nat.le_refl _ | (simp; done) | omega | (simp; omega)) _)))⟩
        · rw [HO.out.2.2.1]; exact HO.out.1.of (by (repeat (first | (with_reducible exact SinceOf.refl _) | (with_reducible assumption) | (with_reducible refine SinceOf.alloc ?_ _) | (with_reducible refine SinceOf.drew ?_) | (with_reducible refine SinceOf.drewN ?_ _) | (with_reducible refine SinceOf.later ?_ _) | (with_reducible refine SinceOf.further ?_ _) | (with_reducible refine SinceOf.setCell ?_ (by first | exact Nat.le_refl _ | (simp; done) | omega | (simp; omega)) _))))
        · rw [HO.out.2.2.2.2]; exact VarV.new _ _ _ _
        · intro e; injection e with e; simp only at e; omega
      case round =>
        obtain ⟨k, A2, c2, gq, hk1, hk, hgas, rfl, rfl, ho, e1, e2, hbq, hneq, ⟨u, rfl⟩⟩ := hrel
        have d0 := e2.c0
        have d1 := e2.c1
        have q0 := e1.c0
        have q1 := e1.c1
        have hg1 := e1.lt
        have hg2 := e2.lt
        have hU1 : Nonempty (Old u.wd gb) := ⟨⟨by omega⟩⟩
        have hU2 : Nonempty (Old u.wd gq) := ⟨⟨by omega⟩⟩
        simp only at d0 d1
        by_cases hlt : k < h.length
        · have hrv : rv h k = at0 h k := by unfold rv; rw [Nat.mod_eq_of_lt hlt]
          have hnf := at_ne_first HY.out.hull hlt (by omega)
          have NXk := NX k hlt
          have htk : h.take (k + 1) = h.take k ++ [rv h k] := by rw [hrv, at0_eq hlt, List.take_add_one, List.getElem?_eq_getElem hlt]; rfl
          rw [hrv] at e1 q0 q1 htk
          rw [← HO.out.2.2.2.1] at hnf
          generalize at0 h k = p at *
          obtain ⟨px, py⟩ := p
          have hne : eqv px py fx fy = false := eqv_false (fun q => hnf (by rw [q.1, q.2]))
          obtain ⟨L, hL⟩ : ∃ L, L = h.take k := ⟨_, rfl⟩
          have hLl : L.length = k := by rw [hL, List.length_take]; omega
          rw [← hL] at ho htk
          simp only at q0 q1 NXk
          have HP := Lib.hid (And.intro ho (And.intro htk (And.intro hLl (And.intro e1 e2))))
          clear ho htk hLl e1 e2 hnf hL hrv
          have hneq' : some gq ≠ blockOf A2 := fun e => hneq e.symm
          have hgbA : some gb ≠ blockOf A2 := fun e => by have := (HP.out.1.below _ e.symm).1; omega
          have hk400 : k ≤ 100000 := by omega
          go_wp2_with (at_builtin; refine wpList_append_row rfl (.tmp 46) (.tmp 48) 25 rfl encV_len (by omega) encV_one i0 _ 16 Try.underlying25 HI.out.1 HI.out.2.1 HI.out.2.2.1 HI.out.2.2.2 rfl (l := L) (A := A2) (c := c2) (base := B0) (by rw [HP.out.2.2.1]; rfl) (HP.out.1.of (by (repeat (first | (with_reducible exact SinceOf.refl _) | (with_reducible assumption) | (with_reducible refine SinceOf.alloc ?_ _) | (with_reducible refine SinceOf.drew ?_) | (with_reducible refine SinceOf.drewN ?_ _) | (with_reducible refine SinceOf.later ?_ _) | (with_reducible refine SinceOf.further ?_ _) | (with_reducible refine SinceOf.setCell ?_ (by first | exact Nat.le_refl _ | (simp; done) | omega | (simp; omega)) _))))) (m := [(px, py)]) rfl (isRow_atV _ _ px py (by first | rfl | simp)) (by rw [HP.out.2.2.1]; unfold maxLen; simp; omega) (by rw [HP.out.2.2.1]; simp; omega) (by simp; omega) ?_; intro A5 c5 w5 ho5 hgr5 hbl5; have n0 : w5.cell? ⟨gq, 0, none⟩ = some (.int .i64 px) := hgr5.cell (by simp [go_sem, *]) hneq'; have n1 : w5.cell? ⟨gq, 1, none⟩ = some (.int .i64 py) := hgr5.cell (by simp [go_sem, *]) hneq')
          have g5 := hgr5.size
          simp only [World.size_alloc] at g5
          have e5 : VarV w5 gb (fx, fy) := (HP.out.2.2.2.2.of (W' := u.wd.alloc (.cells #[.int .i64 px, .int .i64 py] 32)) (by (repeat (first | (with_reducible exact SinceOf.refl _) | (with_reducible assumption) | (with_reducible refine SinceOf.alloc ?_ _) | (with_reducible refine SinceOf.drew ?_) | (with_reducible refine SinceOf.drewN ?_ _) | (with_reducible refine SinceOf.later ?_ _) | (with_reducible refine SinceOf.further ?_ _) | (with_reducible refine SinceOf.setCell ?_ (by first | exact Nat.le_refl _ | (simp; done) | omega | (simp; omega)) _))))).kept hgr5 hgbA
          have s5 : SinceOf w w5 := SinceOf.grown (by (repeat (first | (with_reducible exact SinceOf.refl _) | (with_reducible assumption) | (with_reducible refine SinceOf.alloc ?_ _) | (with_reducible refine SinceOf.drew ?_) | (with_reducible refine SinceOf.drewN ?_ _) | (with_reducible refine SinceOf.later ?_ _) | (with_reducible refine SinceOf.further ?_ _) | (with_reducible refine SinceOf.setCell ?_ (by first | exact Nat.le_refl _ | (simp; done) | omega | (simp; omega)) _)))) hgr5 (fun q hq => by have := (HP.out.1.below q hq).1; omega)
          have H5 := Lib.hid (And.intro ho5 e5)
          clear ho5 e5 hgr5 hbl5
          obtain ⟨v5, rfl⟩ := s5
          refine (NXk _ (HL.out.of (by (repeat (first | (with_reducible exact SinceOf.refl _) | (with_reducible assumption) | (with_reducible refine SinceOf.alloc ?_ _) | (with_reducible refine SinceOf.drew ?_) | (with_reducible refine SinceOf.drewN ?_ _) | (with_reducible refine SinceOf.later ?_ _) | (with_reducible refine SinceOf.further ?_ _) | (with_reducible refine SinceOf.setCell ?_ (by first | exact Nat.le_refl _ | (simp; done) | omega | (simp; omega)) _)))))).mono ?_
          rintro e _ ⟨rfl, ⟨y, rfl⟩⟩
          have hys := y.size
          simp only [World.size_alloc] at hys
          have hLl := HP.out.2.2.1
          rw [hLl]
          have hv5 := v5.size
          generalize hrk : rv h (k + 1) = nx at *
          obtain ⟨nxx, nxy⟩ := nx
          simp only
          go_wp2_with fail
          go_roundg (h.length - (k + 1))
          case measure => omega
          case rel =>
            have z1 : VarV y.wd v5.wd.heap.size (px, py) := (VarV.new v5.wd px py 32).of (by (repeat (first | (with_reducible exact SinceOf.refl _) | (with_reducible assumption) | (with_reducible refine SinceOf.alloc ?_ _) | (with_reducible refine SinceOf.drew ?_) | (with_reducible refine SinceOf.drewN ?_ _) | (with_reducible refine SinceOf.later ?_ _) | (with_reducible refine SinceOf.further ?_ _) | (with_reducible refine SinceOf.setCell ?_ (by first | exact Nat.le_refl _ | (simp; done) | omega | (simp; omega)) _))))
            have z2 : VarV y.wd gb (fx, fy) := H5.out.2.of (by (repeat (first | (with_reducible exact SinceOf.refl _) | (with_reducible assumption) | (with_reducible refine SinceOf.alloc ?_ _) | (with_reducible refine SinceOf.drew ?_) | (with_reducible refine SinceOf.drewN ?_ _) | (with_reducible refine SinceOf.later ?_ _) | (with_reducible refine SinceOf.further ?_ _) | (with_reducible refine SinceOf.setCell ?_ (by first | exact Nat.le_refl _ | (simp; done) | omega | (simp; omega)) _))))
            have z3 : OwnVecs B0 y.wd A5 c5 (L ++ [(px, py)]) := H5.out.1.of (by (repeat (first | (with_reducible exact SinceOf.refl _) | (with_reducible assumption) | (with_reducible refine SinceOf.alloc ?_ _) | (with_reducible refine SinceOf.drew ?_) | (with_reducible refine SinceOf.drewN ?_ _) | (with_reducible refine SinceOf.later ?_ _) | (with_reducible refine SinceOf.further ?_ _) | (with_reducible refine SinceOf.setCell ?_ (by first | exact Nat.le_refl _ | (simp; done) | omega | (simp; omega)) _))))
            have hA5 : blockOf A5 ≠ some v5.wd.heap.size := fun e => by have := (H5.out.1.below _ e).2; omega
            refine ⟨k + 1, A5, c5, v5.wd.heap.size, by omega, by omega, Nat.le_refl _, rfl, rfl, ?_, ?_, z2.other (by omega) _ _, by omega, hA5, SinceOf.setCell (SinceOf.setCell (by (repeat (first | (with_reducible exact SinceOf.refl _) | (with_reducible assumption) | (with_reducible refine SinceOf.alloc ?_ _) | (with_reducible refine SinceOf.drew ?_) | (with_reducible refine SinceOf.drewN ?_ _) | (with_reducible refine SinceOf.later ?_ _) | (with_reducible refine SinceOf.further ?_ _) | (with_reducible refine SinceOf.setCell ?_ (by first | exact Nat.le_refl _ | (simp; done) | omega | (simp; omega)) _)))) (by simp; omega) _) (by simp; omega) _⟩
            · rw [HP.out.2.1]
              exact (z3.kept (grownBy_setCell (p := ⟨v5.wd.heap.size, 0, none⟩) rfl _) (.inr hA5)).kept (grownBy_setCell (p := ⟨v5.wd.heap.size, 1, none⟩) rfl _) (.inr hA5)
            · rw [hrk]; exact z1.put _ _
        · have hkl : k = h.length := by omega
          have hrv : rv h k = (fx, fy) := by rw [HO.out.2.2.2.1, hkl]; unfold rv; rw [Nat.mod_self]
          rw [hrv] at q0 q1
          simp only at q0 q1
          have htk : h.take k = h := by rw [hkl, List.take_length]
          rw [htk] at ho
          have HP := Lib.hid ho
          clear ho e1 e2 htk hrv
          by_cases h160 : 160 < k
          · have d160 : decide (160 < (k : Int)) = true := decide_eq_true (by omega)
            go_wp2_with fail
            go_returns
            exact ⟨none, 0, [], 9, rfl, IsRow.nil _ _ _, .inr (.inr (.inr ⟨hn', HF.out, h, HY.out, .inl ⟨by omega, rfl, rfl⟩⟩)), by (repeat (first | (with_reducible exact SinceOf.refl _) | (with_reducible assumption) | (with_reducible refine SinceOf.alloc ?_ _) | (with_reducible refine SinceOf.drew ?_) | (with_reducible refine SinceOf.drewN ?_ _) | (with_reducible refine SinceOf.later ?_ _) | (with_reducible refine SinceOf.further ?_ _) | (with_reducible refine SinceOf.setCell ?_ (by first | exact Nat.le_refl _ | (simp; done) | omega | (simp; omega)) _))), FreshA.none _⟩
          · have d160 : decide (160 < (k : Int)) = false := decide_eq_false (by omega)
            go_wp2_with fail
            go_returns
            exact ⟨A2, c2, h, 0, by rw [← hkl]; rfl, (HP.out.isRow encV_len), .inr (.inr (.inr ⟨hn', HF.out, h, HY.out, .inr ⟨by omega, rfl, rfl⟩⟩)), by (repeat (first | (with_reducible exact SinceOf.refl _) | (with_reducible assumption) | (with_reducible refine SinceOf.alloc ?_ _) | (with_reducible refine SinceOf.drew ?_) | (with_reducible refine SinceOf.drewN ?_ _) | (with_reducible refine SinceOf.later ?_ _) | (with_reducible refine SinceOf.further ?_ _) | (with_reducible refine SinceOf.setCell ?_ (by first | exact Nat.le_refl _ | (simp; done) | omega | (simp; omega)) _))), FreshA.own HP.out (by omega)⟩
theorem refHull_any (A : Option Addr) (c : Nat) (l : List (Int × Int)) (w : World) (h : IsVecs w A c l) (hlen : l.length < 4611686018427387904) :
    Calls Try.prog 23 #[.slice A l.length c] w fun e w' => ∃ A' c' r err, e = .returned (.tuple #[.slice A' r.length c', .int .i64 err]) ∧ IsVecs w' A' c' r ∧ HullRes l r err ∧ SinceOf w w' := by
  refine (refHull_new A c l w h hlen).mono ?_
  rintro e w' ⟨A', c', r, err, h1, h2, h3, h4, -⟩
  exact ⟨A', c', r, err, h1, h2, h3, h4⟩
end Go.Proofs.Yticmfmcflikneaa
