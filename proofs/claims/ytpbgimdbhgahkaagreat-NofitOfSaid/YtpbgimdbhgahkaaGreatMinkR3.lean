/- Layer 15: hull, checked and Sum of the reference. -/
import Derived.Test.YtpbgimdbhgahkaaGreatMinkR1
import Derived.Test.YtpbgimdbhgahkaaGreatMinkT1
import Derived.Test.YtpbgimdbhgahkaaGreatSl2
namespace Go.Proofs.YtpbgimdbhgahkaaGreat
open Go.RowKit Go.Sort
set_option linter.unusedVariables false
set_option linter.unusedSimpArgs false
attribute [local go_sem ↓] Go.wp_at_zero Go.wp_at_succ

theorem lowC_len (pts : List Pt) : (lowC pts).length ≤ pts.length := by
  have key : ∀ (pts s : List Pt), (chainC s pts).length ≤ s.length + pts.length := by
    intro pts
    induction pts with
    | nil => intro s; simp [chainC]
    | cons p r ih =>
      intro s
      have h1 : ∀ s : List Pt, (popC p s).length ≤ s.length := by
        intro s
        induction s with
        | nil => simp [popC]
        | cons b t iht =>
          match t, iht with
          | [], _ => simp [popC]
          | a :: t', iht =>
            unfold popC
            split
            · have := iht; simp at this ⊢; omega
            · exact Nat.le_refl _
      have := ih (p :: popC p s)
      have h2 := h1 s
      show (chainC (p :: popC p s) r).length ≤ _
      simp at this ⊢
      omega
  have := key pts []
  unfold lowC
  simpa using this
theorem dropLast_take (l : List Pt) : l.dropLast = l.take (l.length - 1) := List.dropLast_eq_take
set_option maxRecDepth 100000 in
set_option maxHeartbeats 8000000 in
theorem hull15_any (A : Option Addr) (c : Nat) (l : List (Int × Int)) (w : World) (h : IsVecs w A c l) (hfar : ∀ q ∈ l, near 20000 q) (hn : l.length ≤ 100000) (h0 : l ≠ []) :
    Calls Tryz.prog 68 #[.slice A l.length c] w fun e w' => ∃ A' c', e = .returned (.slice A' (hull15V l).length c') ∧ OwnVecs w.heap.size w' A' c' (hull15V l) ∧ SinceOf w w' := by
  have SO := refSorted_any A c l w h (by omega)
  obtain ⟨s1, s2⟩ := sortedV_strict l
  obtain ⟨k1, k2⟩ := hull15_short hfar h0
  have hfs : ∀ q ∈ sortedV l, near 100000 q := fun q hq => by have := hfar q ((s2 q).1 hq); unfold near at *; omega
  have hsl : (sortedV l).length ≤ l.length := by
    have := rsortTo_length l l.length (Nat.le_refl _)
    rw [rsort_sorted] at this
    exact this
  have hv : hull15V l = (lowC (sortedV l)).dropLast ++ (lowC (sortedV l).reverse).dropLast := rfl
  generalize sortedV l = up at *
  have q1 := lowC_len up
  have q2 := lowC_len up.reverse
  rw [List.length_reverse] at q2
  have H := Lib.hid (And.intro hfs hv)
  clear h hfar s1 s2 hfs hv h0
  obtain ⟨i0, hi, hz0, hz1, hz2⟩ := info_parts infoVec
  have HI := Lib.hid (And.intro hi (And.intro hz0 (And.intro hz1 hz2)))
  clear hi hz0 hz1 hz2
  go_enter Tryz.func68, Tryz.ntmps68
  go_wp2_with fail
  refine SO.mono ?_
  rintro e _ ⟨A1, c1, rfl, ho1, ⟨x1, rfl⟩⟩
  have HU := Lib.hid ho1
  clear SO ho1
  have hx1 := x1.size
  go_wp2_with fail
  go_loopg [4, 5] up.length (fun gas s4 s5 wr => ∃ (t : Nat) (v : Int) (A2 : Option Addr) (c2 : Nat), t ≤ up.length ∧ up.length - t ≤ gas ∧ v = (up.length : Int) - 1 - t ∧ s5 = .int .i64 v ∧ s4 = .slice A2 t c2 ∧ OwnVecs x1.wd.heap.size wr A2 c2 (up.reverse.take t) ∧ SinceOf x1.wd wr)
  case atStart => exact ⟨0, (up.length : Int) - 1, none, 0, by omega, by omega, by omega, by go_num, rfl, Owns.nil _ _ _ _ _, by (repeat (first | (with_reducible exact SinceOf.refl _) | (with_reducible assumption) | (with_reducible refine SinceOf.alloc ?_ _) | (with_reducible refine SinceOf.drew ?_) | (with_reducible refine SinceOf.drewN ?_ _) | (with_reducible refine SinceOf.later ?_ _) | (with_reducible refine SinceOf.further ?_ _) | (with_reducible refine SinceOf.setCell ?_ (by first | exact Nat.le_refl _ | (simp; done) | omega | (simp; omega)) _)))⟩
  case round =>
    obtain ⟨t, v, A2, c2, ht, hgas, hv, rfl, rfl, ho, ⟨z, rfl⟩⟩ := hrel
    have hz := z.size
    have htl : (up.reverse.take t).length = t := by rw [List.length_take, List.length_reverse]; omega
    by_cases hlt : t < up.length
    · obtain ⟨i, hi⟩ : ∃ i, i = up.length - 1 - t := ⟨_, rfl⟩
      obtain rfl : v = (i : Int) := by omega
      have hil : i < up.length := by omega
      have hr0 := (HU.out.isRow encV_len).of (w' := z.wd) (by (repeat (first | (with_reducible exact SinceOf.refl _) | (with_reducible assumption) | (with_reducible refine SinceOf.alloc ?_ _) | (with_reducible refine SinceOf.drew ?_) | (with_reducible refine SinceOf.drewN ?_ _) | (with_reducible refine SinceOf.later ?_ _) | (with_reducible refine SinceOf.further ?_ _) | (with_reducible refine SinceOf.setCell ?_ (by first | exact Nat.le_refl _ | (simp; done) | omega | (simp; omega)) _))))
      obtain ⟨g, off, rfl, hr⟩ := hr0.at_ (by omega)
      have hO := hr.there
      have p0 := hr.v0 i hil
      have p1 := hr.v1 i hil
      have hnx : up.reverse.take (t + 1) = up.reverse.take t ++ [up[i]] := by
        rw [List.take_succ_eq_append_getElem (by rw [List.length_reverse]; exact hlt), List.getElem_reverse]
        congr 3
        omega
      obtain ⟨⟨px, py⟩, hp⟩ : ∃ p, p = up[i] := ⟨_, rfl⟩
      rw [← hp] at hnx p0 p1
      simp only at p0 p1
      obtain ⟨L, hL⟩ : ∃ L, L = up.reverse.take t := ⟨_, rfl⟩
      rw [← hL] at ho htl hnx
      have HP := Lib.hid (And.intro ho (And.intro htl (And.intro hnx hv)))
      clear ho htl hnx hv hL hp hr hr0 hi
      have g1 : decide (0 ≤ (i : Int)) = true := decide_eq_true (by omega)
      go_wp2_with (at_builtin; refine wpList_append_row rfl (.tmp 17) (.tmp 22) 40 rfl encV_len (by omega) encV_one i0 _ 16 Tryz.underlying40 HI.out.1 HI.out.2.1 HI.out.2.2.1 HI.out.2.2.2 rfl (l := L) (A := A2) (c := c2) (base := x1.wd.heap.size) (by rw [HP.out.2.1]; rfl) (HP.out.1.of (by (repeat (first | (with_reducible exact SinceOf.refl _) | (with_reducible assumption) | (with_reducible refine SinceOf.alloc ?_ _) | (with_reducible refine SinceOf.drew ?_) | (with_reducible refine SinceOf.drewN ?_ _) | (with_reducible refine SinceOf.later ?_ _) | (with_reducible refine SinceOf.further ?_ _) | (with_reducible refine SinceOf.setCell ?_ (by first | exact Nat.le_refl _ | (simp; done) | omega | (simp; omega)) _))))) (m := [(px, py)]) rfl (isRow_atV _ _ px py (by first | rfl | simp)) (by rw [HP.out.2.1]; unfold maxLen; simp; omega) (by rw [HP.out.2.1]; simp; omega) (by simp; omega) ?_; intro A5 c5 w5 ho5 hgr5 hb5)
      go_roundg (up.length - (t + 1))
      case measure => omega
      case rel => exact ⟨t + 1, (i : Int) - 1, A5, c5, hlt, Nat.le_refl _, by have := HP.out.2.2.2; omega, by go_num, (by have q := HP.out.2.1; simp [q]), by rw [HP.out.2.2.1]; exact ho5, SinceOf.grown (by (repeat (first | (with_reducible exact SinceOf.refl _) | (with_reducible assumption) | (with_reducible refine SinceOf.alloc ?_ _) | (with_reducible refine SinceOf.drew ?_) | (with_reducible refine SinceOf.drewN ?_ _) | (with_reducible refine SinceOf.later ?_ _) | (with_reducible refine SinceOf.further ?_ _) | (with_reducible refine SinceOf.setCell ?_ (by first | exact Nat.le_refl _ | (simp; done) | omega | (simp; omega)) _)))) hgr5 (fun q hq => (HP.out.1.below q hq).1)⟩
    · obtain rfl : t = up.length := by omega
      have hv0 : v < 0 := by omega
      have g1 : decide (0 ≤ v) = false := decide_eq_false (by omega)
      rw [List.take_of_length_le (by simp)] at ho
      have hul := (List.length_reverse : up.reverse.length = up.length)
      have C1 := fun W (hW : SinceOf z.wd W) => chain15_any A1 c1 up W ((HU.out.isRow encV_len).of (SinceOf.trans ⟨z, rfl⟩ hW)) H.out.1 (by omega)
      have C2 := fun W (hW : SinceOf z.wd W) => chain15_any A2 c2 up.reverse W ((ho.isRow encV_len).of hW) (fun q hq => H.out.1 q (List.mem_reverse.1 hq)) (by omega)
      rw [hul] at C2
      clear hv ho htl hul
      go_wp2_with fail
      refine (C1 _ (by (repeat (first | (with_reducible exact SinceOf.refl _) | (with_reducible assumption) | (with_reducible refine SinceOf.alloc ?_ _) | (with_reducible refine SinceOf.drew ?_) | (with_reducible refine SinceOf.drewN ?_ _) | (with_reducible refine SinceOf.later ?_ _) | (with_reducible refine SinceOf.further ?_ _) | (with_reducible refine SinceOf.setCell ?_ (by first | exact Nat.le_refl _ | (simp; done) | omega | (simp; omega)) _))))).mono ?_
      rintro e _ ⟨A3, c3, rfl, ho3, ⟨x3, rfl⟩⟩
      have HL3 := Lib.hid ho3
      clear ho3
      have hx3 := x3.size
      go_wp2_with fail
      refine (C2 _ (by (repeat (first | (with_reducible exact SinceOf.refl _) | (with_reducible assumption) | (with_reducible refine SinceOf.alloc ?_ _) | (with_reducible refine SinceOf.drew ?_) | (with_reducible refine SinceOf.drewN ?_ _) | (with_reducible refine SinceOf.later ?_ _) | (with_reducible refine SinceOf.further ?_ _) | (with_reducible refine SinceOf.setCell ?_ (by first | exact Nat.le_refl _ | (simp; done) | omega | (simp; omega)) _))))).mono ?_
      rintro e _ ⟨A4, c4, rfl, ho4, ⟨x4, rfl⟩⟩
      have HL4 := Lib.hid ho4
      clear ho4 C1 C2
      have hx4 := x4.size
      have v1 := HL3.out.le_cap
      have v2 := HL4.out.le_cap
      obtain ⟨a, ha⟩ : ∃ a, a = (lowC up).length := ⟨_, rfl⟩
      obtain ⟨b, hb⟩ : ∃ b, b = (lowC up.reverse).length := ⟨_, rfl⟩
      have R3 := Lib.hid (((HL3.out.isRow encV_len).of (w' := x4.wd) (by (repeat (first | (with_reducible exact SinceOf.refl _) | (with_reducible assumption) | (with_reducible refine SinceOf.alloc ?_ _) | (with_reducible refine SinceOf.drew ?_) | (with_reducible refine SinceOf.drewN ?_ _) | (with_reducible refine SinceOf.later ?_ _) | (with_reducible refine SinceOf.further ?_ _) | (with_reducible refine SinceOf.setCell ?_ (by first | exact Nat.le_refl _ | (simp; done) | omega | (simp; omega)) _))))).take (a - 1))
      have R4 := Lib.hid ((HL4.out.isRow encV_len).take (b - 1))
      have t3 : ((lowC up).take (a - 1)).length = a - 1 := by rw [List.length_take]; omega
      have t4 : ((lowC up.reverse).take (b - 1)).length = b - 1 := by rw [List.length_take]; omega
      have hres : hull15V l = (lowC up).take (a - 1) ++ (lowC up.reverse).take (b - 1) := by rw [H.out.2, dropLast_take, dropLast_take, ha, hb]
      rw [← ha] at v1 q1 k1 ⊢
      rw [← hb] at v2 q2 k2 ⊢
      have HT := Lib.hid (And.intro t3 (And.intro t4 hres))
      obtain ⟨a1, ha1⟩ : ∃ a1, a1 = a - 1 := ⟨_, rfl⟩
      obtain ⟨b1, hb1⟩ : ∃ b1, b1 = b - 1 := ⟨_, rfl⟩
      rw [← ha1] at R3 HT
      rw [← hb1] at R4 HT
      have e1 : (a : Int) - 1 = (a1 : Int) := by omega
      have e2 : (b : Int) - 1 = (b1 : Int) := by omega
      have y1 : a1 ≤ c3 := by omega
      have y2 : b1 ≤ c4 := by omega
      have wa : IntKind.i64.wrap (a1 : Int) = (a1 : Int) := IntWalk.i64_in _ (by omega)
      have wb : IntKind.i64.wrap (b1 : Int) = (b1 : Int) := IntWalk.i64_in _ (by omega)
      have a1b : a1 ≤ 100000 := by omega
      have b1b : b1 ≤ 100000 := by omega
      obtain ⟨L3, hL3⟩ : ∃ L, L = (lowC up).take a1 := ⟨_, rfl⟩
      obtain ⟨L4, hL4⟩ : ∃ L, L = (lowC up.reverse).take b1 := ⟨_, rfl⟩
      rw [← hL3] at R3 HT
      rw [← hL4] at R4 HT
      have hbz : w.heap.size ≤ x4.wd.heap.size := by omega
      clear t3 t4 hres ha hb ha1 hb1 hL3 hL4 k1 k2 q1 q2 v1 v2 hx1 hx3 hx4 hz HU HL3 HL4
      obtain ⟨hi, hz0, hz1, hz2⟩ := HI.out
      have l3 := HT.out.1
      have l4 := HT.out.2.1
      go_wp2_with fail
      go_region_law ((first
        | (refine step_append_row2 (by rfl) (.tmp 28) (.tmp 33) 41 40 (by rfl) encV_len (by omega) encV_one i0 _ 16 Tryz.underlying41 Tryz.underlying40 hi hz0 hz1 hz2 rfl (l := []) (c := 0) (base := w.heap.size) (by rfl) (by first | exact owns_empty _ _ hbz | exact (owns_empty _ _ hbz).alloc _) (m := L3) (B := A3) (d := c3) (by rw [l3]; simp [Act.eval]) (R3.out.of (by (repeat (first | (with_reducible exact SinceOf.refl _) | (with_reducible assumption) | (with_reducible refine SinceOf.alloc ?_ _) | (with_reducible refine SinceOf.drew ?_) | (with_reducible refine SinceOf.drewN ?_ _) | (with_reducible refine SinceOf.later ?_ _) | (with_reducible refine SinceOf.further ?_ _) | (with_reducible refine SinceOf.setCell ?_ (by first | exact Nat.le_refl _ | (simp; done) | omega | (simp; omega)) _))))) (by unfold maxLen; rw [l3]; simp; omega) (by rw [l3]; simp; omega) (by simp; omega) ?_
           intro A5 c5 w5 hown5 hgrow5 hb5
           have hs5 : SinceOf x4.wd w5 := SinceOf.grown (by (repeat (first | (with_reducible exact SinceOf.refl _) | (with_reducible assumption) | (with_reducible refine SinceOf.alloc ?_ _) | (with_reducible refine SinceOf.drew ?_) | (with_reducible refine SinceOf.drewN ?_ _) | (with_reducible refine SinceOf.later ?_ _) | (with_reducible refine SinceOf.further ?_ _) | (with_reducible refine SinceOf.setCell ?_ (by first | exact Nat.le_refl _ | (simp; done) | omega | (simp; omega)) _)))) hgrow5 (by intro q hq; simp [blockOf] at hq; omega))
        | (refine step_append_row2 (by rfl) (.tmp 34) (.tmp 39) 41 40 (by rfl) encV_len (by omega) encV_one i0 _ 16 Tryz.underlying41 Tryz.underlying40 hi hz0 hz1 hz2 rfl (l := [] ++ L3) (A := A5) (c := c5) (base := w.heap.size) (by simp [Act.eval, l3]) (by first | exact hown5.alloc _ | exact hown5) (m := L4) (B := A4) (d := c4) (by rw [l4]; simp [Act.eval]) (R4.out.of (by (repeat (first | (with_reducible exact SinceOf.refl _) | (with_reducible assumption) | (with_reducible refine SinceOf.alloc ?_ _) | (with_reducible refine SinceOf.drew ?_) | (with_reducible refine SinceOf.drewN ?_ _) | (with_reducible refine SinceOf.later ?_ _) | (with_reducible refine SinceOf.further ?_ _) | (with_reducible refine SinceOf.setCell ?_ (by first | exact Nat.le_refl _ | (simp; done) | omega | (simp; omega)) _))))) (by unfold maxLen; rw [List.nil_append, l3, l4]; omega) (by rw [List.nil_append, l3, l4]; omega) (by have := hs5.size; simp at this ⊢; omega) ?_
           intro A6 c6 w6 hown6 hgrow6 hb6
           have hs6 : SinceOf x4.wd w6 := SinceOf.grown (by (repeat (first | (with_reducible exact SinceOf.refl _) | (with_reducible assumption) | (with_reducible refine SinceOf.alloc ?_ _) | (with_reducible refine SinceOf.drew ?_) | (with_reducible refine SinceOf.drewN ?_ _) | (with_reducible refine SinceOf.later ?_ _) | (with_reducible refine SinceOf.further ?_ _) | (with_reducible refine SinceOf.setCell ?_ (by first | exact Nat.le_refl _ | (simp; done) | omega | (simp; omega)) _)))) hgrow6 (by intro q hq; rw [hq] at hb5; simp [blockOf] at hb5; omega))))
      all_goals go_wp2_with fail
      all_goals go_returns
      all_goals
        refine ⟨A6, c6, ?_, ?_, SinceOf.trans (by (repeat (first | (with_reducible exact SinceOf.refl _) | (with_reducible assumption) | (with_reducible refine SinceOf.alloc ?_ _) | (with_reducible refine SinceOf.drew ?_) | (with_reducible refine SinceOf.drewN ?_ _) | (with_reducible refine SinceOf.later ?_ _) | (with_reducible refine SinceOf.further ?_ _) | (with_reducible refine SinceOf.setCell ?_ (by first | exact Nat.le_refl _ | (simp; done) | omega | (simp; omega)) _)))) hs6⟩
        · rw [HT.out.2.2, List.length_append, l3, l4]; first | rfl | (simp [Act.put]; done)
        · rw [HT.out.2.2]; simpa using hown6
set_option maxRecDepth 100000 in
set_option maxHeartbeats 8000000 in
theorem checked_any (A : Option Addr) (c : Nat) (u : List (Int × Int)) (w : World) (h : IsVecs w A c u) (hc : u.length ≤ c) (hn : u.length ≤ 100000) :
    Calls Tryz.prog 45 #[.slice A u.length c] w fun e w' => ∃ A' c', e = .returned (.tuple #[.slice A' (checkedV u).1.length c', .int .i64 (checkedV u).2]) ∧ IsVecs w' A' c' (checkedV u).1 ∧ (checkedV u).1.length ≤ c' ∧ (A' = none ∨ A' = A) ∧ SinceOf w w' := by
  have H := Lib.hid (And.intro h hc)
  obtain ⟨V, hV⟩ : ∃ V, V = checkedV u := ⟨_, rfl⟩
  rw [← hV]
  have hV2 : V = if u.all inV then (if 160 < u.length then ([], 9) else (u, 0)) else ([], 2) := hV
  have HV := Lib.hid hV2
  clear h hc hV hV2
  go_enter Tryz.func45, Tryz.ntmps45
  go_wp2_with fail
  go_loopg [4] u.length (fun gas s4 wr => ∃ i : Nat, i ≤ u.length ∧ u.length - i ≤ gas ∧ s4 = .int .i64 i ∧ LaterOf w wr ∧ u.all inV = (u.drop i).all inV)
  case atStart => exact ⟨0, by omega, by omega, by go_num, by (repeat (first | (with_reducible exact LaterOf.refl _) | (with_reducible refine LaterOf.alloc ?_ _) | (with_reducible refine LaterOf.drew ?_) | (with_reducible refine LaterOf.drewN ?_ _) | (with_reducible refine LaterOf.later ?_ _) | (with_reducible refine LaterOf.setCell ?_ (by first | exact Nat.le_refl _ | (simp; done) | omega | (simp; omega)) _))), by rw [List.drop_zero]⟩
  case round =>
    obtain ⟨i, hi, hgas, rfl, ⟨z, rfl⟩, hall⟩ := hrel
    by_cases hlt : i < u.length
    · rw [all_dropV _ hlt] at hall
      have hc := (H.out.1.of (LaterOf.since ⟨z, rfl⟩))
      obtain ⟨g, off, rfl, hr⟩ := hc.at_ (by omega)
      have hO := hr.there
      have k0 := hr.v0 i hlt
      have k1 := hr.v1 i hlt
      have C := refWithin_any u[i].1 u[i].2 8000
      rw [show withinB u[i].1 u[i].2 8000 = inV u[i] from rfl] at C
      generalize inV u[i] = b at *
      generalize u[i].1 = px at *
      generalize u[i].2 = py at *
      clear hc hr
      cases b
      · rw [Bool.false_and] at hall
        have HA := Lib.hid hall
        clear hall
        go_wp2_with fail
        refine (C _).calls.mono ?_
        rintro e _ ⟨rfl, x1, rfl⟩
        go_wp2_with fail
        go_returns
        refine ⟨none, 0, ?_, ?_, ?_, .inl rfl, by (repeat (first | (with_reducible exact SinceOf.refl _) | (with_reducible assumption) | (with_reducible refine SinceOf.alloc ?_ _) | (with_reducible refine SinceOf.drew ?_) | (with_reducible refine SinceOf.drewN ?_ _) | (with_reducible refine SinceOf.later ?_ _) | (with_reducible refine SinceOf.further ?_ _) | (with_reducible refine SinceOf.setCell ?_ (by first | exact Nat.le_refl _ | (simp; done) | omega | (simp; omega)) _)))⟩
        · rw [HV.out, HA.out]; rfl
        · rw [HV.out, HA.out]; exact IsRow.nil _ _ _
        · rw [HV.out, HA.out]; exact Nat.le_refl _
      · rw [Bool.true_and] at hall
        have HA := Lib.hid hall
        clear hall
        go_wp2_with fail
        refine (C _).calls.mono ?_
        rintro e _ ⟨rfl, x1, rfl⟩
        go_wp2_with fail
        go_roundg (u.length - (i + 1))
        case measure => omega
        case rel => exact ⟨i + 1, hlt, Nat.le_refl _, by go_num, by (repeat (first | (with_reducible exact LaterOf.refl _) | (with_reducible refine LaterOf.alloc ?_ _) | (with_reducible refine LaterOf.drew ?_) | (with_reducible refine LaterOf.drewN ?_ _) | (with_reducible refine LaterOf.later ?_ _) | (with_reducible refine LaterOf.setCell ?_ (by first | exact Nat.le_refl _ | (simp; done) | omega | (simp; omega)) _))), HA.out⟩
    · obtain rfl : i = u.length := by omega
      rw [List.drop_length] at hall
      have HA := Lib.hid hall
      clear hall
      by_cases h160 : 160 < u.length
      · have g160 : decide ((160 : Int) < (u.length : Int)) = true := decide_eq_true (by omega)
        have HB2 := Lib.hid h160
        clear h160
        go_wp2_with fail
        go_returns
        refine ⟨none, 0, ?_, ?_, ?_, .inl rfl, by (repeat (first | (with_reducible exact SinceOf.refl _) | (with_reducible assumption) | (with_reducible refine SinceOf.alloc ?_ _) | (with_reducible refine SinceOf.drew ?_) | (with_reducible refine SinceOf.drewN ?_ _) | (with_reducible refine SinceOf.later ?_ _) | (with_reducible refine SinceOf.further ?_ _) | (with_reducible refine SinceOf.setCell ?_ (by first | exact Nat.le_refl _ | (simp; done) | omega | (simp; omega)) _)))⟩
        · rw [HV.out, HA.out, if_pos (by rfl), if_pos HB2.out]; rfl
        · rw [HV.out, HA.out, if_pos (by rfl), if_pos HB2.out]; exact IsRow.nil _ _ _
        · rw [HV.out, HA.out, if_pos (by rfl), if_pos HB2.out]; exact Nat.le_refl _
      · have g160 : decide ((160 : Int) < (u.length : Int)) = false := decide_eq_false (by omega)
        have HB2 := Lib.hid h160
        clear h160
        go_wp2_with fail
        go_returns
        refine ⟨A, c, ?_, ?_, ?_, .inr rfl, by (repeat (first | (with_reducible exact SinceOf.refl _) | (with_reducible assumption) | (with_reducible refine SinceOf.alloc ?_ _) | (with_reducible refine SinceOf.drew ?_) | (with_reducible refine SinceOf.drewN ?_ _) | (with_reducible refine SinceOf.later ?_ _) | (with_reducible refine SinceOf.further ?_ _) | (with_reducible refine SinceOf.setCell ?_ (by first | exact Nat.le_refl _ | (simp; done) | omega | (simp; omega)) _)))⟩
        · rw [HV.out, HA.out, if_pos (by rfl), if_neg HB2.out]; rfl
        · rw [HV.out, HA.out, if_pos (by rfl), if_neg HB2.out]; exact H.out.1.of (by (repeat (first | (with_reducible exact SinceOf.refl _) | (with_reducible assumption) | (with_reducible refine SinceOf.alloc ?_ _) | (with_reducible refine SinceOf.drew ?_) | (with_reducible refine SinceOf.drewN ?_ _) | (with_reducible refine SinceOf.later ?_ _) | (with_reducible refine SinceOf.further ?_ _) | (with_reducible refine SinceOf.setCell ?_ (by first | exact Nat.le_refl _ | (simp; done) | omega | (simp; omega)) _))))
        · rw [HV.out, HA.out, if_pos (by rfl), if_neg HB2.out]; exact H.out.2
end Go.Proofs.YtpbgimdbhgahkaaGreat
/- Layer 15: Sum of the reference and of the program, for any two rings. -/
namespace Go.Proofs.YtpbgimdbhgahkaaGreat
open Go.RowKit Go.Sort
set_option linter.unusedVariables false
set_option linter.unusedSimpArgs false
attribute [local go_sem ↓] Go.wp_at_zero Go.wp_at_succ

/-- What Sum gives: the hull of the sums, or an error. -/
def SumV (r s : List Pt) (out : List Pt × Int) : Prop := if validB r = true ∧ validB s = true then SumIs r s out else out = ([], 11)
theorem SumV.unique {r s : List Pt} {a b : List Pt × Int} (h : SumV r s a) (k : SumV r s b) : a = b := by
  unfold SumV at h k
  split at h
  · rw [if_pos (by assumption)] at k; exact h.unique k
  · rw [if_neg (by assumption)] at k; rw [h, k]
theorem SumV.no1 {r s : List Pt} (h : validB r = false) : SumV r s ([], 11) := by unfold SumV; rw [if_neg (by simp [h])]
theorem SumV.no2 {r s : List Pt} (h : validB s = false) : SumV r s ([], 11) := by unfold SumV; rw [if_neg (by simp [h])]
theorem SumV.yes {r s : List Pt} {out : List Pt × Int} (h : validB r = true) (k : validB s = true) : SumV r s out ↔ SumIs r s out := by unfold SumV; rw [if_pos ⟨h, k⟩]
theorem sums2_take {r s : List Pt} {i : Nat} (h : i < r.length) : sums2 (r.take (i + 1)) s = sums2 (r.take i) s ++ s.map (addP r[i]) := by
  unfold sums2
  rw [List.take_succ_eq_append_getElem h, List.flatMap_append]
  simp
theorem sums2_len (r s : List Pt) : (sums2 r s).length = r.length * s.length := by
  unfold sums2
  induction r with
  | nil => simp
  | cons a r ih => simp only [List.flatMap_cons, List.length_append, List.length_map, List.length_cons, ih]; rw [Nat.succ_mul]; omega
theorem sums2_near {r s : List Pt} (hr : ∀ p ∈ r, near 8000 p) (hs : ∀ p ∈ s, near 8000 p) : ∀ q ∈ sums2 r s, near 20000 q := fun q hq => by
  obtain ⟨a, ha, b, hb, rfl⟩ := mem_sums2.1 hq
  have := hr a ha
  have := hs b hb
  unfold near addP at *
  simp only
  omega
/-- Two valid rings have a sum. -/
theorem sum_ex {r s : List Pt} (hr : Conv15 r) (hs : Conv15 s) : ∃ u, HullY (sums2 r s) u := by
  have h3 := hr.1
  have mk : ∀ {r : List Pt}, Conv15 r → ∃ k, k < r.length ∧ ∀ j, j < r.length → ¬ lexy (at0 r j) (at0 r k) := fun {r} hr => by
    have h3 := hr.1
    obtain ⟨k, hk, hm⟩ := exists_least (lin 1 40001) (r := r) (by intro e; rw [e] at h3; simp at h3)
    refine ⟨k, hk, fun j hj hl => ?_⟩
    have n1 := hr.2.2.1 _ (at0_mem hj)
    have n2 := hr.2.2.1 _ (at0_mem hk)
    have := lexy_lin (by unfold near at *; omega) (by unfold near at *; omega) hl
    have := hm _ (at0_mem hj)
    omega
  obtain ⟨k, hk, h1⟩ := mk hr
  obtain ⟨m, hm, h2⟩ := mk hs
  have l1 := rotL_length (r := r) (Nat.le_of_lt hk)
  have l2 := rotL_length (r := s) (Nat.le_of_lt hm)
  have d1 := dirs_dir (n := r.length) hr hk
  have d2 := dirs_dir (n := s.length) hs hm
  have hd : ∀ x ∈ dirsK (rotL k r) r.length ++ dirsK (rotL m s) s.length, Dir16 x := fun x hx => by
    rcases List.mem_append.1 hx with q | q
    · exact d1 x q
    · exact d2 x q
  obtain ⟨s1, s2⟩ := insertion_spec ord_elt (a := 0) (b := (dirsK (rotL k r) r.length ++ dirsK (rotL m s) s.length).length) (dirsK (rotL k r) r.length ++ dirsK (rotL m s) s.length) (fun x hx => (hd x hx).dir) (Nat.le_refl _)
  generalize (insertionSort elt _ _ _).toList = T at s1 s2
  have M : Merged (rotL k r) (rotL m s) T := ⟨conv_begun hr hk h1, conv_begun hs hm h2, by rw [l1, l2]; exact s1.perm, by rw [s1.len]; exact s2⟩
  have H := M.hull
  exact ⟨_, H.more (fun q hq => (mem_sums2_rot q).2 hq) (fun v hv => (mem_sums2_rot v).1 (H.hull.sub v hv))⟩
set_option maxRecDepth 100000 in
set_option maxHeartbeats 16000000 in
theorem refSum_any (A B : Option Addr) (c d : Nat) (r s : List (Int × Int)) (w : World) (h : IsVecs w A c r) (h2 : IsVecs w B d s) (hn1 : r.length < 4611686018427387904) (hn2 : s.length < 4611686018427387904) :
    Calls Tryz.prog 39 #[.slice A r.length c, .slice B s.length d] w fun e w' => ∃ A' c' out, e = .returned (.tuple #[.slice A' out.1.length c', .int .i64 out.2]) ∧ SumV r s out ∧ IsVecs w' A' c' out.1 ∧ out.1.length ≤ c' ∧ (∀ b, blockOf A' = some b → w.heap.size ≤ b) ∧ SinceOf w w' := by
  have VR := fun W (hW : SinceOf w W) => refValid_any A c r W (h.of hW) hn1
  have VS := fun W (hW : SinceOf w W) => refValid_any B d s W (h2.of hW) hn2
  have H := Lib.hid (And.intro h h2)
  clear h h2
  cases hr : validB r
  · rw [hr] at VR
    have HV := Lib.hid hr
    clear hr
    go_enter Tryz.func39, Tryz.ntmps39
    go_wp2_with fail
    refine (VR _ (by (repeat (first | (with_reducible exact SinceOf.refl _) | (with_reducible assumption) | (with_reducible refine SinceOf.alloc ?_ _) | (with_reducible refine SinceOf.drew ?_) | (with_reducible refine SinceOf.drewN ?_ _) | (with_reducible refine SinceOf.later ?_ _) | (with_reducible refine SinceOf.further ?_ _) | (with_reducible refine SinceOf.setCell ?_ (by first | exact Nat.le_refl _ | (simp; done) | omega | (simp; omega)) _))))).calls.mono ?_
    rintro e _ ⟨rfl, x1, rfl⟩
    go_wp2_with fail
    go_returns
    exact ⟨none, 0, ([], 11), rfl, SumV.no1 HV.out, IsRow.nil _ _ _, Nat.le_refl _, (fun b hb => by cases hb), by (repeat (first | (with_reducible exact SinceOf.refl _) | (with_reducible assumption) | (with_reducible refine SinceOf.alloc ?_ _) | (with_reducible refine SinceOf.drew ?_) | (with_reducible refine SinceOf.drewN ?_ _) | (with_reducible refine SinceOf.later ?_ _) | (with_reducible refine SinceOf.further ?_ _) | (with_reducible refine SinceOf.setCell ?_ (by first | exact Nat.le_refl _ | (simp; done) | omega | (simp; omega)) _)))⟩
  cases hs : validB s
  · rw [hr] at VR
    rw [hs] at VS
    have HV := Lib.hid hs
    clear hr hs
    go_enter Tryz.func39, Tryz.ntmps39
    go_wp2_with fail
    refine (VR _ (by (repeat (first | (with_reducible exact SinceOf.refl _) | (with_reducible assumption) | (with_reducible refine SinceOf.alloc ?_ _) | (with_reducible refine SinceOf.drew ?_) | (with_reducible refine SinceOf.drewN ?_ _) | (with_reducible refine SinceOf.later ?_ _) | (with_reducible refine SinceOf.further ?_ _) | (with_reducible refine SinceOf.setCell ?_ (by first | exact Nat.le_refl _ | (simp; done) | omega | (simp; omega)) _))))).calls.mono ?_
    rintro e _ ⟨rfl, x1, rfl⟩
    go_wp2_with fail
    refine (VS _ (by (repeat (first | (with_reducible exact SinceOf.refl _) | (with_reducible assumption) | (with_reducible refine SinceOf.alloc ?_ _) | (with_reducible refine SinceOf.drew ?_) | (with_reducible refine SinceOf.drewN ?_ _) | (with_reducible refine SinceOf.later ?_ _) | (with_reducible refine SinceOf.further ?_ _) | (with_reducible refine SinceOf.setCell ?_ (by first | exact Nat.le_refl _ | (simp; done) | omega | (simp; omega)) _))))).calls.mono ?_
    rintro e _ ⟨rfl, x2, rfl⟩
    go_wp2_with fail
    go_returns
    exact ⟨none, 0, ([], 11), rfl, SumV.no2 HV.out, IsRow.nil _ _ _, Nat.le_refl _, (fun b hb => by cases hb), by (repeat (first | (with_reducible exact SinceOf.refl _) | (with_reducible assumption) | (with_reducible refine SinceOf.alloc ?_ _) | (with_reducible refine SinceOf.drew ?_) | (with_reducible refine SinceOf.drewN ?_ _) | (with_reducible refine SinceOf.later ?_ _) | (with_reducible refine SinceOf.further ?_ _) | (with_reducible refine SinceOf.setCell ?_ (by first | exact Nat.le_refl _ | (simp; done) | omega | (simp; omega)) _)))⟩
  have hcr := validB_iff.1 hr
  have hcs := validB_iff.1 hs
  obtain ⟨u, hu⟩ := sum_ex hcr hcs
  have hh := hull15_hull (sums2_near hcr.2.2.1 hcs.2.2.1) hu
  have hres : SumV r s (checkedV (hull15V (sums2 r s))) := (SumV.yes hr hs).2 ⟨u, hu, by rw [hh]⟩
  rw [hr] at VR
  rw [hs] at VS
  have r3 := hcr.1
  have s3 := hcs.1
  have r160 := hcr.2.1
  have s160 := hcs.2.1
  have hne : sums2 r s ≠ [] := fun e => by
    have := congrArg List.length e
    rw [sums2_len] at this
    have : 3 * 3 ≤ r.length * s.length := Nat.mul_le_mul r3 s3
    simp at *
    omega
  obtain ⟨i0, hi, hz0, hz1, hz2⟩ := info_parts infoVec
  have HI := Lib.hid (And.intro hi (And.intro hz0 (And.intro hz1 hz2)))
  have HC := Lib.hid (And.intro hcr.2.2.1 (And.intro hcs.2.2.1 (And.intro hres hne)))
  have hu160 : u.length ≤ 100000 := by
    have h5 : u.length ≤ (sums2 r s).length := nodup_le (by
      refine List.pairwise_iff_getElem.2 fun i j hi hj hij => ?_
      have := hu.hull.distinct (i := i) (k := j) hi hj (by omega)
      rw [at0_eq hi, at0_eq hj] at this
      exact this) hu.hull.sub
    rw [sums2_len] at h5
    have : r.length * s.length ≤ 160 * 160 := Nat.mul_le_mul r160 s160
    omega
  rw [← hh] at hu160
  clear hi hz0 hz1 hz2 hcr hcs hres hh hu hr hs hne
  go_enter Tryz.func39, Tryz.ntmps39
  go_wp2_with fail
  refine (VR _ (by (repeat (first | (with_reducible exact SinceOf.refl _) | (with_reducible assumption) | (with_reducible refine SinceOf.alloc ?_ _) | (with_reducible refine SinceOf.drew ?_) | (with_reducible refine SinceOf.drewN ?_ _) | (with_reducible refine SinceOf.later ?_ _) | (with_reducible refine SinceOf.further ?_ _) | (with_reducible refine SinceOf.setCell ?_ (by first | exact Nat.le_refl _ | (simp; done) | omega | (simp; omega)) _))))).calls.mono ?_
  rintro e _ ⟨rfl, x1, rfl⟩
  go_wp2_with fail
  refine (VS _ (by (repeat (first | (with_reducible exact SinceOf.refl _) | (with_reducible assumption) | (with_reducible refine SinceOf.alloc ?_ _) | (with_reducible refine SinceOf.drew ?_) | (with_reducible refine SinceOf.drewN ?_ _) | (with_reducible refine SinceOf.later ?_ _) | (with_reducible refine SinceOf.further ?_ _) | (with_reducible refine SinceOf.setCell ?_ (by first | exact Nat.le_refl _ | (simp; done) | omega | (simp; omega)) _))))).calls.mono ?_
  rintro e _ ⟨rfl, x2, rfl⟩
  clear VR VS
  go_wp2_with fail
  go_loopg [6, 7] r.length (fun gas s6 s7 wr => ∃ (i : Nat) (A2 : Option Addr) (c2 n2 : Nat), i ≤ r.length ∧ r.length - i ≤ gas ∧ n2 = i * s.length ∧ s6 = .slice A2 n2 c2 ∧ s7 = .int .i64 i ∧ OwnVecs w.heap.size wr A2 c2 (sums2 (r.take i) s) ∧ SinceOf w wr)
  case atStart => exact ⟨0, none, 0, 0, by omega, by omega, by omega, rfl, rfl, Owns.nil _ _ _ _ _, by (repeat (first | (with_reducible exact SinceOf.refl _) | (with_reducible assumption) | (with_reducible refine SinceOf.alloc ?_ _) | (with_reducible refine SinceOf.drew ?_) | (with_reducible refine SinceOf.drewN ?_ _) | (with_reducible refine SinceOf.later ?_ _) | (with_reducible refine SinceOf.further ?_ _) | (with_reducible refine SinceOf.setCell ?_ (by first | exact Nat.le_refl _ | (simp; done) | omega | (simp; omega)) _)))⟩
  case round =>
    obtain ⟨i, A2, c2, n2, hi, hgas, hn2, rfl, rfl, ho, ⟨z, rfl⟩⟩ := hrel
    by_cases hlt : i < r.length
    · have hil : i * s.length ≤ 160 * 160 := Nat.mul_le_mul (by omega) s160
      have htk := sums2_take (s := s) hlt
      have hsl : (sums2 (r.take i) s).length = n2 := by rw [sums2_len, List.length_take, Nat.min_eq_left (by omega), hn2]
      have hn2s : (i + 1) * s.length = n2 + s.length := by rw [hn2, Nat.add_mul, Nat.one_mul]
      have HT := Lib.hid (And.intro ho (And.intro htk (And.intro hsl hn2s)))
      clear ho htk hsl hn2s
      rw [← hn2] at hil
      clear hn2
      go_wp2_with fail
      go_loopg [6, 8] s.length (fun gas2 s6 s8 wr => ∃ (j : Nat) (A3 : Option Addr) (c3 n3 : Nat), j ≤ s.length ∧ s.length - j ≤ gas2 ∧ n3 = n2 + j ∧ s6 = .slice A3 n3 c3 ∧ s8 = .int .i64 j ∧ OwnVecs w.heap.size wr A3 c3 (sums2 (r.take i) s ++ (s.take j).map (addP r[i])) ∧ SinceOf w wr)
      case atStart => exact ⟨0, A2, c2, n2, by omega, by omega, rfl, rfl, rfl, by rw [List.take_zero, List.map_nil, List.append_nil]; exact HT.out.1.of (by (repeat (first | (with_reducible exact SinceOf.refl _) | (with_reducible assumption) | (with_reducible refine SinceOf.alloc ?_ _) | (with_reducible refine SinceOf.drew ?_) | (with_reducible refine SinceOf.drewN ?_ _) | (with_reducible refine SinceOf.later ?_ _) | (with_reducible refine SinceOf.further ?_ _) | (with_reducible refine SinceOf.setCell ?_ (by first | exact Nat.le_refl _ | (simp; done) | omega | (simp; omega)) _)))), by (repeat (first | (with_reducible exact SinceOf.refl _) | (with_reducible assumption) | (with_reducible refine SinceOf.alloc ?_ _) | (with_reducible refine SinceOf.drew ?_) | (with_reducible refine SinceOf.drewN ?_ _) | (with_reducible refine SinceOf.later ?_ _) | (with_reducible refine SinceOf.further ?_ _) | (with_reducible refine SinceOf.setCell ?_ (by first | exact Nat.le_refl _ | (simp; done) | omega | (simp; omega)) _)))⟩
      case round =>
        obtain ⟨j, A3, c3, n3, hj, hgas2, hn3, rfl, rfl, ho3, ⟨v, rfl⟩⟩ := hrel
        by_cases hlt2 : j < s.length
        · have hr0 := H.out.1.of (w' := v.wd) (by (repeat (first | (with_reducible exact SinceOf.refl _) | (with_reducible assumption) | (with_reducible refine SinceOf.alloc ?_ _) | (with_reducible refine SinceOf.drew ?_) | (with_reducible refine SinceOf.drewN ?_ _) | (with_reducible refine SinceOf.later ?_ _) | (with_reducible refine SinceOf.further ?_ _) | (with_reducible refine SinceOf.setCell ?_ (by first | exact Nat.le_refl _ | (simp; done) | omega | (simp; omega)) _))))
          obtain ⟨g, off, rfl, hr⟩ := hr0.at_ (by omega)
          have hO := hr.there
          have hs0 := H.out.2.of (w' := v.wd) (by (repeat (first | (with_reducible exact SinceOf.refl _) | (with_reducible assumption) | (with_reducible refine SinceOf.alloc ?_ _) | (with_reducible refine SinceOf.drew ?_) | (with_reducible refine SinceOf.drewN ?_ _) | (with_reducible refine SinceOf.later ?_ _) | (with_reducible refine SinceOf.further ?_ _) | (with_reducible refine SinceOf.setCell ?_ (by first | exact Nat.le_refl _ | (simp; done) | omega | (simp; omega)) _))))
          obtain ⟨g3, off3, rfl, hs⟩ := hs0.at_ (by omega)
          have hO3 := hs.there
          have a0 := hr.v0 i hlt
          have a1 := hr.v1 i hlt
          have b0 := hs.v0 j hlt2
          have b1 := hs.v1 j hlt2
          have htk2 := List.take_succ_eq_append_getElem hlt2
          have AD := refAdd_any r[i].1 r[i].2 s[j].1 s[j].2
          have nr := HC.out.1 _ (List.getElem_mem hlt)
          have ns := HC.out.2.1 _ (List.getElem_mem hlt2)
          have ex : (wadd r[i].1 s[j].1, wadd r[i].2 s[j].2) = addP r[i] s[j] := by
            unfold near at nr ns
            rw [wadd_near (n := 1) (by omega) (by omega) (by omega), wadd_near (n := 1) (by omega) (by omega) (by omega)]
            rfl
          obtain ⟨L, hL⟩ : ∃ L, L = sums2 (r.take i) s ++ (s.take j).map (addP r[i]) := ⟨_, rfl⟩
          have hL2 : sums2 (r.take i) s ++ (s.take (j + 1)).map (addP r[i]) = L ++ [(wadd r[i].1 s[j].1, wadd r[i].2 s[j].2)] := by
            rw [hL, htk2, List.map_append, List.append_assoc, ex]; rfl
          have hLl : L.length = n3 := by rw [hL, List.length_append, HT.out.2.2.1, List.length_map, List.length_take, Nat.min_eq_left (by omega), hn3]
          rw [← hL] at ho3
          have HP := Lib.hid (And.intro ho3 (And.intro hL2 hLl))
          clear ho3 hL2 hL hLl htk2 hr hr0 hs hs0 ex nr ns
          generalize wadd r[i].1 s[j].1 = sx at *
          generalize wadd r[i].2 s[j].2 = sy at *
          generalize r[i].1 = xa at *
          generalize r[i].2 = ya at *
          generalize s[j].1 = xb at *
          generalize s[j].2 = yb at *
          have hn3b : n3 ≤ 30000 := by omega
          have HN3 := Lib.hid hn3
          clear hn3
          go_wp2_with fail
          go_region_law
            (first
              | (go_simp; go_at_call 44; refine (AD _).calls.mono ?_; rintro e _ ⟨rfl, z1, rfl⟩; (try dsimp only))
              | (refine step_append_row (by rfl) (.tmp 29) (.tmp 39) 40 (by rfl) encV_len (by omega) encV_one i0 _ 16 Tryz.underlying40 HI.out.1 HI.out.2.1 HI.out.2.2.1 HI.out.2.2.2 rfl (l := L) (A := A3) (c := c3) (base := w.heap.size) (by rw [HP.out.2.2]; rfl) (HP.out.1.of (by (repeat (first | (with_reducible exact SinceOf.refl _) | (with_reducible assumption) | (with_reducible refine SinceOf.alloc ?_ _) | (with_reducible refine SinceOf.drew ?_) | (with_reducible refine SinceOf.drewN ?_ _) | (with_reducible refine SinceOf.later ?_ _) | (with_reducible refine SinceOf.further ?_ _) | (with_reducible refine SinceOf.setCell ?_ (by first | exact Nat.le_refl _ | (simp; done) | omega | (simp; omega)) _))))) (m := [(sx, sy)]) (by rfl) (isRow_atV _ _ _ _ (by first | rfl | simp)) (by rw [HP.out.2.2]; unfold maxLen; simp; omega) (by rw [HP.out.2.2]; simp; omega) (by have := z1.size; have := v.size; simp at *; omega) ?_; intro A4 c4 w4 ho4 hgr4 hb4))
          all_goals
            go_wp2_with fail
            go_roundg (s.length - (j + 1))
            case measure => omega
            case rel =>
              refine ⟨j + 1, A4, c4, n3 + 1, hlt2, Nat.le_refl _, by rw [HN3.out, Nat.add_assoc], (by rw [HP.out.2.2]; try rfl), by go_num, ?_, SinceOf.grown (by (repeat (first | (with_reducible exact SinceOf.refl _) | (with_reducible assumption) | (with_reducible refine SinceOf.alloc ?_ _) | (with_reducible refine SinceOf.drew ?_) | (with_reducible refine SinceOf.drewN ?_ _) | (with_reducible refine SinceOf.later ?_ _) | (with_reducible refine SinceOf.further ?_ _) | (with_reducible refine SinceOf.setCell ?_ (by first | exact Nat.le_refl _ | (simp; done) | omega | (simp; omega)) _)))) hgr4 (fun q hq => (HP.out.1.below q hq).1)⟩
              rw [HP.out.2.1]
              exact ho4
        · obtain rfl : j = s.length := by omega
          have HP := Lib.hid (show OwnVecs w.heap.size v.wd A3 c3 (sums2 (r.take (i + 1)) s) by rw [HT.out.2.1]; rw [List.take_length] at ho3; exact ho3)
          clear ho3
          go_wp2_with fail
          go_roundg (r.length - (i + 1))
          case measure => omega
          case rel => exact ⟨i + 1, A3, c3, n3, hlt, Nat.le_refl _, by rw [HT.out.2.2.2, hn3], rfl, by go_num, HP.out, by (repeat (first | (with_reducible exact SinceOf.refl _) | (with_reducible assumption) | (with_reducible refine SinceOf.alloc ?_ _) | (with_reducible refine SinceOf.drew ?_) | (with_reducible refine SinceOf.drewN ?_ _) | (with_reducible refine SinceOf.later ?_ _) | (with_reducible refine SinceOf.further ?_ _) | (with_reducible refine SinceOf.setCell ?_ (by first | exact Nat.le_refl _ | (simp; done) | omega | (simp; omega)) _)))⟩
    · obtain rfl : i = r.length := by omega
      rw [List.take_length] at ho
      have hsl : (sums2 r s).length = n2 := by rw [sums2_len, hn2]
      have hil : r.length * s.length ≤ 160 * 160 := Nat.mul_le_mul (by omega) s160
      have HN := fun W (hW : SinceOf z.wd W) => hull15_any A2 c2 (sums2 r s) W ((ho.isRow encV_len).of hW) (sums2_near HC.out.1 HC.out.2.1) (by rw [sums2_len]; omega) HC.out.2.2.2
      rw [hsl] at HN
      obtain ⟨U, hU⟩ : ∃ U, U = hull15V (sums2 r s) := ⟨_, rfl⟩
      rw [← hU] at HN hu160
      have HU := Lib.hid hU
      clear ho hn2 hsl hil hU
      go_wp2_with fail
      refine (HN _ (by (repeat (first | (with_reducible exact SinceOf.refl _) | (with_reducible assumption) | (with_reducible refine SinceOf.alloc ?_ _) | (with_reducible refine SinceOf.drew ?_) | (with_reducible refine SinceOf.drewN ?_ _) | (with_reducible refine SinceOf.later ?_ _) | (with_reducible refine SinceOf.further ?_ _) | (with_reducible refine SinceOf.setCell ?_ (by first | exact Nat.le_refl _ | (simp; done) | omega | (simp; omega)) _))))).mono ?_
      rintro e _ ⟨A6, c6, rfl, ho6, ⟨x6, rfl⟩⟩
      have CK := fun W (hW : SinceOf x6.wd W) => checked_any A6 c6 U W ((ho6.isRow encV_len).of hW) ho6.le_cap hu160
      have HB6 := Lib.hid (fun b hb => (ho6.below b hb).1)
      clear HN ho6
      go_wp2_with fail
      refine (CK _ (by (repeat (first | (with_reducible exact SinceOf.refl _) | (with_reducible assumption) | (with_reducible refine SinceOf.alloc ?_ _) | (with_reducible refine SinceOf.drew ?_) | (with_reducible refine SinceOf.drewN ?_ _) | (with_reducible refine SinceOf.later ?_ _) | (with_reducible refine SinceOf.further ?_ _) | (with_reducible refine SinceOf.setCell ?_ (by first | exact Nat.le_refl _ | (simp; done) | omega | (simp; omega)) _))))).mono ?_
      rintro e _ ⟨A7, c7, rfl, hv7, hc7, ha7, ⟨x7, rfl⟩⟩
      have HP := Lib.hid (And.intro hv7 (And.intro hc7 ha7))
      clear hv7 hc7 ha7 CK
      go_wp2_with fail
      go_returns
      exact ⟨A7, c7, checkedV U, rfl, by rw [HU.out]; exact HC.out.2.2.1, HP.out.1, HP.out.2.1, fun b hb => by
        rcases HP.out.2.2 with q | q
        · rw [q] at hb; cases hb
        · rw [q] at hb
          have := HB6.out b hb
          have := x1.size; have := x2.size; have := z.size
          omega, by (repeat (first | (with_reducible exact SinceOf.refl _) | (with_reducible assumption) | (with_reducible refine SinceOf.alloc ?_ _) | (with_reducible refine SinceOf.drew ?_) | (with_reducible refine SinceOf.drewN ?_ _) | (with_reducible refine SinceOf.later ?_ _) | (with_reducible refine SinceOf.further ?_ _) | (with_reducible refine SinceOf.setCell ?_ (by first | exact Nat.le_refl _ | (simp; done) | omega | (simp; omega)) _)))⟩
set_option maxRecDepth 100000 in
set_option maxHeartbeats 4000000 in
theorem sum_any (A B : Option Addr) (c d : Nat) (r s : List (Int × Int)) (w : World) (h : IsVecs w A c r) (h2 : IsVecs w B d s) (hc : r.length ≤ c) (hd : s.length ≤ d) (hn1 : r.length < 4611686018427387904) (hn2 : s.length < 4611686018427387904) :
    Calls Tryz.prog 35 #[.slice A r.length c, .slice B s.length d] w fun e w' => ∃ A' c' out, e = .returned (.tuple #[.slice A' out.1.length c', .int .i64 out.2]) ∧ SumV r s out ∧ IsVecs w' A' c' out.1 ∧ out.1.length ≤ c' ∧ (∀ b, blockOf A' = some b → w.heap.size ≤ b) ∧ SinceOf w w' := by
  have VR := fun W (hW : SinceOf w W) => valid_any A c r W (h.of hW) hn1
  have VS := fun W (hW : SinceOf w W) => valid_any B d s W (h2.of hW) hn2
  cases hr : validB r
  · rw [hr] at VR
    have HV := Lib.hid hr
    clear hr h h2
    go_enter Tryz.func35, Tryz.ntmps35
    go_wp2_with fail
    refine (VR _ (by (repeat (first | (with_reducible exact SinceOf.refl _) | (with_reducible assumption) | (with_reducible refine SinceOf.alloc ?_ _) | (with_reducible refine SinceOf.drew ?_) | (with_reducible refine SinceOf.drewN ?_ _) | (with_reducible refine SinceOf.later ?_ _) | (with_reducible refine SinceOf.further ?_ _) | (with_reducible refine SinceOf.setCell ?_ (by first | exact Nat.le_refl _ | (simp; done) | omega | (simp; omega)) _))))).calls.mono ?_
    rintro e _ ⟨rfl, x1, rfl⟩
    go_wp2_with fail
    go_returns
    exact ⟨none, 0, ([], 11), rfl, SumV.no1 HV.out, IsRow.nil _ _ _, Nat.le_refl _, (fun b hb => by cases hb), by (repeat (first | (with_reducible exact SinceOf.refl _) | (with_reducible assumption) | (with_reducible refine SinceOf.alloc ?_ _) | (with_reducible refine SinceOf.drew ?_) | (with_reducible refine SinceOf.drewN ?_ _) | (with_reducible refine SinceOf.later ?_ _) | (with_reducible refine SinceOf.further ?_ _) | (with_reducible refine SinceOf.setCell ?_ (by first | exact Nat.le_refl _ | (simp; done) | omega | (simp; omega)) _)))⟩
  cases hs : validB s
  · rw [hr] at VR
    rw [hs] at VS
    have HV := Lib.hid hs
    clear hr hs h h2
    go_enter Tryz.func35, Tryz.ntmps35
    go_wp2_with fail
    refine (VR _ (by (repeat (first | (with_reducible exact SinceOf.refl _) | (with_reducible assumption) | (with_reducible refine SinceOf.alloc ?_ _) | (with_reducible refine SinceOf.drew ?_) | (with_reducible refine SinceOf.drewN ?_ _) | (with_reducible refine SinceOf.later ?_ _) | (with_reducible refine SinceOf.further ?_ _) | (with_reducible refine SinceOf.setCell ?_ (by first | exact Nat.le_refl _ | (simp; done) | omega | (simp; omega)) _))))).calls.mono ?_
    rintro e _ ⟨rfl, x1, rfl⟩
    go_wp2_with fail
    refine (VS _ (by (repeat (first | (with_reducible exact SinceOf.refl _) | (with_reducible assumption) | (with_reducible refine SinceOf.alloc ?_ _) | (with_reducible refine SinceOf.drew ?_) | (with_reducible refine SinceOf.drewN ?_ _) | (with_reducible refine SinceOf.later ?_ _) | (with_reducible refine SinceOf.further ?_ _) | (with_reducible refine SinceOf.setCell ?_ (by first | exact Nat.le_refl _ | (simp; done) | omega | (simp; omega)) _))))).calls.mono ?_
    rintro e _ ⟨rfl, x2, rfl⟩
    go_wp2_with fail
    go_returns
    exact ⟨none, 0, ([], 11), rfl, SumV.no2 HV.out, IsRow.nil _ _ _, Nat.le_refl _, (fun b hb => by cases hb), by (repeat (first | (with_reducible exact SinceOf.refl _) | (with_reducible assumption) | (with_reducible refine SinceOf.alloc ?_ _) | (with_reducible refine SinceOf.drew ?_) | (with_reducible refine SinceOf.drewN ?_ _) | (with_reducible refine SinceOf.later ?_ _) | (with_reducible refine SinceOf.further ?_ _) | (with_reducible refine SinceOf.setCell ?_ (by first | exact Nat.le_refl _ | (simp; done) | omega | (simp; omega)) _)))⟩
  have hcr := validB_iff.1 hr
  have hcs := validB_iff.1 hs
  refine (sum_walk sortsAll A B c d r s w h h2 hc hd hr hs (by have := hcr.2.1; have := hcs.2.1; omega)).mono ?_
  rintro e w' ⟨A', c', out, he, hres, hv, hcap, hf, hsi⟩
  exact ⟨A', c', out, he, (SumV.yes hr hs).2 (sum_is hcr hcs hres), hv, hcap, hf, hsi⟩
end Go.Proofs.YtpbgimdbhgahkaaGreat
