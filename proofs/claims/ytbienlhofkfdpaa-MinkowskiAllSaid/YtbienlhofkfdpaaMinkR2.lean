/- Layer 15: hull, checked and Sum of the reference. -/
import Derived.Test.YtbienlhofkfdpaaMinkR1
import Derived.Test.YtbienlhofkfdpaaMinkT1
import Derived.Test.YtbienlhofkfdpaaSl2
namespace Go.Proofs.Ytbienlhofkfdpaa
open Go.RowKit Go.Sort
set_option linter.unusedVariables false
set_option linter.unusedSimpArgs false
attribute [local go_sem ↓] Go.wp_at_zero Go.wp_at_succ

theorem lowC_len (pts : List Pt) : (lowC pts).length ≤ pts.length := by
  have key : ∀ (pts s : List Pt), (chainC s pts).length ≤ s.length + pts.length := by
    intro pts
    induction pts with
    | nil => intro s; simp [chainC]
    | cons p r ih =>
      intro s
      have h1 : ∀ s : List Pt, (popC p s).length ≤ s.length := by
        intro s
        induction s with
        | nil => simp [popC]
        | cons b t iht =>
          match t, iht with
          | [], _ => simp [popC]
          | a :: t', iht =>
            unfold popC
            split
            · have := iht; simp at this ⊢; omega
            · exact Nat.le_refl _
      have := ih (p :: popC p s)
      have h2 := h1 s
      show (chainC (p :: popC p s) r).length ≤ _
      simp at this ⊢
      omega
  have := key pts []
  unfold lowC
  simpa using this
theorem dropLast_take (l : List Pt) : l.dropLast = l.take (l.length - 1) := List.dropLast_eq_take
set_option maxRecDepth 100000 in
set_option maxHeartbeats 8000000 in
theorem hull15_any (A : Option Addr) (c : Nat) (l : List (Int × Int)) (w : World) (h : IsVecs w A c l) (hfar : ∀ q ∈ l, near 20000 q) (hn : l.length ≤ 100000) (h0 : l ≠ []) :
    Calls Try.prog 66 #[.slice A l.length c] w fun e w' => ∃ A' c', e = .returned (.slice A' (hull15V l).length c') ∧ OwnVecs w.heap.size w' A' c' (hull15V l) ∧ SinceOf w w' := by
  have SO := refSorted_any A c l w h (by omega)
  obtain ⟨s1, s2⟩ := sortedV_strict l
  obtain ⟨k1, k2⟩ := hull15_short hfar h0
  have hfs : ∀ q ∈ sortedV l, near 100000 q := fun q hq => by have := hfar q ((s2 q).1 hq); unfold near at *; omega
  have hsl : (sortedV l).length ≤ l.length := by
    have := rsortTo_length l l.length (Nat.le_refl _)
    rw [rsort_sorted] at this
    exact this
  have hv : hull15V l = (lowC (sortedV l)).dropLast ++ (lowC (sortedV l).reverse).dropLast := rfl
  generalize sortedV l = up at *
  have q1 := lowC_len up
  have q2 := lowC_len up.reverse
  rw [List.length_reverse] at q2
  have H := Lib.hid (And.intro hfs hv)
  clear h hfar s1 s2 hfs hv h0
  obtain ⟨i0, hi, hz0, hz1, hz2⟩ := info_parts infoVec
  have HI := Lib.hid (And.intro hi (And.intro hz0 (And.intro hz1 hz2)))
  clear hi hz0 hz1 hz2
  go_enter Try.func66, Try.ntmps66
  go_wp2_with fail
  refine SO.mono ?_
  rintro e _ ⟨A1, c1, rfl, ho1, ⟨x1, rfl⟩⟩
  have HU := Lib.hid ho1
  clear SO ho1
  have hx1 := x1.size
  go_wp2_with fail
  go_loopg [4, 5] up.length (fun gas s4 s5 wr => ∃ (t : Nat) (v : Int) (A2 : Option Addr) (c2 : Nat), t ≤ up.length ∧ up.length - t ≤ gas ∧ v = (up.length : Int) - 1 - t ∧ s5 = .int .i64 v ∧ s4 = .slice A2 t c2 ∧ OwnVecs x1.wd.heap.size wr A2 c2 (up.reverse.take t) ∧ SinceOf x1.wd wr)
  case atStart => exact ⟨0, (up.length : Int) - 1, none, 0, by omega, by omega, by omega, by go_num, rfl, Owns.nil _ _ _ _ _, by (repeat (first | (with_reducible exact SinceOf.refl _) | (with_reducible assumption) | (with_reducible refine SinceOf.alloc ?_ _) | (with_reducible refine SinceOf.drew ?_) | (with_reducible refine SinceOf.drewN ?_ _) | (with_reducible refine SinceOf.later ?_ _) | (with_reducible refine SinceOf.further ?_ _) | (with_reducible refine SinceOf.setCell ?_ (by first | exact Nat.le_refl _ | (simp; done) | omega | (simp; omega)) _)))⟩
  case round =>
    obtain ⟨t, v, A2, c2, ht, hgas, hv, rfl, rfl, ho, ⟨z, rfl⟩⟩ := hrel
    have hz := z.size
    have htl : (up.reverse.take t).length = t := by rw [List.length_take, List.length_reverse]; omega
    by_cases hlt : t < up.length
    · obtain ⟨i, hi⟩ : ∃ i, i = up.length - 1 - t := ⟨_, rfl⟩
      obtain rfl : v = (i : Int) := by omega
      have hil : i < up.length := by omega
      have hr0 := (HU.out.isRow encV_len).of (w' := z.wd) (by (repeat (first | (with_reducible exact SinceOf.refl _) | (with_reducible assumption) | (with_reducible refine SinceOf.alloc ?_ _) | (with_reducible refine SinceOf.drew ?_) | (with_reducible refine SinceOf.drewN ?_ _) | (with_reducible refine SinceOf.later ?_ _) | (with_reducible refine SinceOf.further ?_ _) | (with_reducible refine SinceOf.setCell ?_ (by first | exact Nat.le_refl _ | (simp; done) | omega | (simp; omega)) _))))
      obtain ⟨g, off, rfl, hr⟩ := hr0.at_ (by omega)
      have hO := hr.there
      have p0 := hr.v0 i hil
      have p1 := hr.v1 i hil
      have hnx : up.reverse.take (t + 1) = up.reverse.take t ++ [up[i]] := by
        rw [List.take_succ_eq_append_getElem (by rw [List.length_reverse]; exact hlt), List.getElem_reverse]
        congr 3
        omega
      obtain ⟨⟨px, py⟩, hp⟩ : ∃ p, p = up[i] := ⟨_, rfl⟩
      rw [← hp] at hnx p0 p1
      simp only at p0 p1
      obtain ⟨L, hL⟩ : ∃ L, L = up.reverse.take t := ⟨_, rfl⟩
      rw [← hL] at ho htl hnx
      have HP := Lib.hid (And.intro ho (And.intro htl (And.intro hnx hv)))
      clear ho htl hnx hv hL hp hr hr0 hi
      have g1 : decide (0 ≤ (i : Int)) = true := decide_eq_true (by omega)
      go_wp2_with (at_builtin; refine wpList_append_row rfl (.tmp 17) (.tmp 22) 22 rfl encV_len (by omega) encV_one i0 _ 16 Try.underlying22 HI.out.1 HI.out.2.1 HI.out.2.2.1 HI.out.2.2.2 rfl (l := L) (A := A2) (c := c2) (base := x1.wd.heap.size) (by rw [HP.out.2.1]; rfl) (HP.out.1.of (by (repeat (first | (with_reducible exact SinceOf.refl _) | (with_reducible assumption) | (with_reducible refine SinceOf.alloc ?_ _) | (with_reducible refine SinceOf.drew ?_) | (with_reducible refine SinceOf.drewN ?_ _) | (with_reducible refine SinceOf.later ?_ _) | (with_reducible refine SinceOf.further ?_ _) | (with_reducible refine SinceOf.setCell ?_ (by first | exact Nat.le_refl _ | (simp; done) | omega | (simp; omega)) _))))) (m := [(px, py)]) rfl (isRow_atV _ _ px py (by first | rfl | simp)) (by rw [HP.out.2.1]; unfold maxLen; simp; omega) (by rw [HP.out.2.1]; simp; omega) (by simp; omega) ?_; intro A5 c5 w5 ho5 hgr5 hb5)
      go_roundg (up.length - (t + 1))
      case measure => omega
      case rel => exact ⟨t + 1, (i : Int) - 1, A5, c5, hlt, Nat.le_refl _, by have := HP.out.2.2.2; omega, by go_num, (by have q := HP.out.2.1; simp [q]), by rw [HP.out.2.2.1]; exact ho5, SinceOf.grown (by (repeat (first | (with_reducible exact SinceOf.refl _) | (with_reducible assumption) | (with_reducible refine SinceOf.alloc ?_ _) | (with_reducible refine SinceOf.drew ?_) | (with_reducible refine SinceOf.drewN ?_ _) | (with_reducible refine SinceOf.later ?_ _) | (with_reducible refine SinceOf.further ?_ _) | (with_reducible refine SinceOf.setCell ?_ (by first | exact Nat.le_refl _ | (simp; done) | omega | (simp; omega)) _)))) hgr5 (fun q hq => (HP.out.1.below q hq).1)⟩
    · obtain rfl : t = up.length := by omega
      have hv0 : v < 0 := by omega
      have g1 : decide (0 ≤ v) = false := decide_eq_false (by omega)
      rw [List.take_of_length_le (by simp)] at ho
      have hul := (List.length_reverse : up.reverse.length = up.length)
      have C1 := fun W (hW : SinceOf z.wd W) => chain15_any A1 c1 up W ((HU.out.isRow encV_len).of (SinceOf.trans ⟨z, rfl⟩ hW)) H.out.1 (by omega)
      have C2 := fun W (hW : SinceOf z.wd W) => chain15_any A2 c2 up.reverse W ((ho.isRow encV_len).of hW) (fun q hq => H.out.1 q (List.mem_reverse.1 hq)) (by omega)
      rw [hul] at C2
      clear hv ho htl hul
      go_wp2_with fail
      refine (C1 _ (by (repeat (first | (with_reducible exact SinceOf.refl _) | (with_reducible assumption) | (with_reducible refine SinceOf.alloc ?_ _) | (with_reducible refine SinceOf.drew ?_) | (with_reducible refine SinceOf.drewN ?_ _) | (with_reducible refine SinceOf.later ?_ _) | (with_reducible refine SinceOf.further ?_ _) | (with_reducible refine SinceOf.setCell ?_ (by first | exact Nat.le_refl _ | (simp; done) | omega | (simp; omega)) _))))).mono ?_
      rintro e _ ⟨A3, c3, rfl, ho3, ⟨x3, rfl⟩⟩
      have HL3 := Lib.hid ho3
      clear ho3
      have hx3 := x3.size
      go_wp2_with fail
      refine (C2 _ (by (repeat (first | (with_reducible exact SinceOf.refl _) | (with_reducible assumption) | (with_reducible refine SinceOf.alloc ?_ _) | (with_reducible refine SinceOf.drew ?_) | (with_reducible refine SinceOf.drewN ?_ _) | (with_reducible refine SinceOf.later ?_ _) | (with_reducible refine SinceOf.further ?_ _) | (with_reducible refine SinceOf.setCell ?_ (by first | exact Nat.le_refl _ | (simp; done) | omega | (simp; omega)) _))))).mono ?_
      rintro e _ ⟨A4, c4, rfl, ho4, ⟨x4, rfl⟩⟩
      have HL4 := Lib.hid ho4
      clear ho4 C1 C2
      have hx4 := x4.size
      have v1 := HL3.out.le_cap
      have v2 := HL4.out.le_cap
      obtain ⟨a, ha⟩ : ∃ a, a = (lowC up).length := ⟨_, rfl⟩
      obtain ⟨b, hb⟩ : ∃ b, b = (lowC up.reverse).length := ⟨_, rfl⟩
      have R3 := Lib.hid (((HL3.out.isRow encV_len).of (w' := x4.wd) (by (repeat (first | (with_reducible exact SinceOf.refl _) | (with_reducible assumption) | (with_reducible refine SinceOf.alloc ?_ _) | (with_reducible refine SinceOf.drew ?_) | (with_reducible refine SinceOf.drewN ?_ _) | (with_reducible refine SinceOf.later ?_ _) | (with_reducible refine SinceOf.further ?_ _) | (with_reducible refine SinceOf.setCell ?_ (by first | exact Nat.le_refl _ | (simp; done) | omega | (simp; omega)) _))))).take (a - 1))
      have R4 := Lib.hid ((HL4.out.isRow encV_len).take (b - 1))
      have t3 : ((lowC up).take (a - 1)).length = a - 1 := by rw [List.length_take]; omega
      have t4 : ((lowC up.reverse).take (b - 1)).length = b - 1 := by rw [List.length_take]; omega
      have hres : hull15V l = (lowC up).take (a - 1) ++ (lowC up.reverse).take (b - 1) := by rw [H.out.2, dropLast_take, dropLast_take, ha, hb]
      rw [← ha] at v1 q1 k1 ⊢
      rw [← hb] at v2 q2 k2 ⊢
      have HT := Lib.hid (And.intro t3 (And.intro t4 hres))
      obtain ⟨a1, ha1⟩ : ∃ a1, a1 = a - 1 := ⟨_, rfl⟩
      obtain ⟨b1, hb1⟩ : ∃ b1, b1 = b - 1 := ⟨_, rfl⟩
      rw [← ha1] at R3 HT
      rw [← hb1] at R4 HT
      have e1 : (a : Int) - 1 = (a1 : Int) := by omega
      have e2 : (b : Int) - 1 = (b1 : Int) := by omega
      have y1 : a1 ≤ c3 := by omega
      have y2 : b1 ≤ c4 := by omega
      have wa : IntKind.i64.wrap (a1 : Int) = (a1 : Int) := IntWalk.i64_in _ (by omega)
      have wb : IntKind.i64.wrap (b1 : Int) = (b1 : Int) := IntWalk.i64_in _ (by omega)
      have a1b : a1 ≤ 100000 := by omega
      have b1b : b1 ≤ 100000 := by omega
      obtain ⟨L3, hL3⟩ : ∃ L, L = (lowC up).take a1 := ⟨_, rfl⟩
      obtain ⟨L4, hL4⟩ : ∃ L, L = (lowC up.reverse).take b1 := ⟨_, rfl⟩
      rw [← hL3] at R3 HT
      rw [← hL4] at R4 HT
      have hbz : w.heap.size ≤ x4.wd.heap.size := by omega
      clear t3 t4 hres ha hb ha1 hb1 hL3 hL4 k1 k2 q1 q2 v1 v2 hx1 hx3 hx4 hz HU HL3 HL4
      obtain ⟨hi, hz0, hz1, hz2⟩ := HI.out
      have l3 := HT.out.1
      have l4 := HT.out.2.1
      go_wp2_with fail
      go_region_law ((first
        | (refine step_append_row2 (by rfl) (.tmp 28) (.tmp 33) 23 22 (by rfl) encV_len (by omega) encV_one i0 _ 16 Try.underlying23 Try.underlying22 hi hz0 hz1 hz2 rfl (l := []) (c := 0) (base := w.heap.size) (by rfl) (by first | exact owns_empty _ _ hbz | exact (owns_empty _ _ hbz).alloc _) (m := L3) (B := A3) (d := c3) (by rw [l3]; simp [Act.eval]) (R3.out.of (by (repeat (first | (with_reducible exact SinceOf.refl _) | (with_reducible assumption) | (with_reducible refine SinceOf.alloc ?_ _) | (with_reducible refine SinceOf.drew ?_) | (with_reducible refine SinceOf.drewN ?_ _) | (with_reducible refine SinceOf.later ?_ _) | (with_reducible refine SinceOf.further ?_ _) | (with_reducible refine SinceOf.setCell ?_ (by first | exact Nat.le_refl _ | (simp; done) | omega | (simp; omega)) _))))) (by unfold maxLen; rw [l3]; simp; omega) (by rw [l3]; simp; omega) (by simp; omega) ?_
           intro A5 c5 w5 hown5 hgrow5 hb5
           have hs5 : SinceOf x4.wd w5 := SinceOf.grown (by (repeat (first | (with_reducible exact SinceOf.refl _) | (with_reducible assumption) | (with_reducible refine SinceOf.alloc ?_ _) | (with_reducible refine SinceOf.drew ?_) | (with_reducible refine SinceOf.drewN ?_ _) | (with_reducible refine SinceOf.later ?_ _) | (with_reducible refine SinceOf.further ?_ _) | (with_reducible refine SinceOf.setCell ?_ (by first | exact Nat.le_refl _ | (simp; done) | omega | (simp; omega)) _)))) hgrow5 (by intro q hq; simp [blockOf] at hq; omega))
        | (refine step_append_row2 (by rfl) (.tmp 34) (.tmp 39) 23 22 (by rfl) encV_len (by omega) encV_one i0 _ 16 Try.underlying23 Try.underlying22 hi hz0 hz1 hz2 rfl (l := [] ++ L3) (A := A5) (c := c5) (base := w.heap.size) (by simp [Act.eval, l3]) (by first | exact hown5.alloc _ | exact hown5) (m := L4) (B := A4) (d := c4) (by rw [l4]; simp [Act.eval]) (R4.out.of (by (repeat (first | (with_reducible exact SinceOf.refl _) | (with_reducible assumption) | (with_reducible refine SinceOf.alloc ?_ _) | (with_reducible refine SinceOf.drew ?_) | (with_reducible refine SinceOf.drewN ?_ _) | (with_reducible refine SinceOf.later ?_ _) | (with_reducible refine SinceOf.further ?_ _) | (with_reducible refine SinceOf.setCell ?_ (by first | exact Nat.le_refl _ | (simp; done) | omega | (simp; omega)) _))))) (by unfold maxLen; rw [List.nil_append, l3, l4]; omega) (by rw [List.nil_append, l3, l4]; omega) (by have := hs5.size; simp at this ⊢; omega) ?_
           intro A6 c6 w6 hown6 hgrow6 hb6
           have hs6 : SinceOf x4.wd w6 := SinceOf.grown (by (repeat (first | (with_reducible exact SinceOf.refl _) | (with_reducible assumption) | (with_reducible refine SinceOf.alloc ?_ _) | (with_reducible refine SinceOf.drew ?_) | (with_reducible refine SinceOf.drewN ?_ _) | (with_reducible refine SinceOf.later ?_ _) | (with_reducible refine SinceOf.further ?_ _) | (with_reducible refine SinceOf.setCell ?_ (by first | exact Nat.le_refl _ | (simp; done) | omega | (simp; omega)) _)))) hgrow6 (by intro q hq; rw [hq] at hb5; simp [blockOf] at hb5; omega))))
      all_goals go_wp2_with fail
      all_goals go_returns
      all_goals
        refine ⟨A6, c6, ?_, ?_, SinceOf.trans (by (repeat (first | (with_reducible exact SinceOf.refl _) | (with_reducible assumption) | (with_reducible refine SinceOf.alloc ?_ _) | (with_reducible refine SinceOf.drew ?_) | (with_reducible refine SinceOf.drewN ?_ _) | (with_reducible refine SinceOf.later ?_ _) | (with_reducible refine SinceOf.further ?_ _) | (with_reducible refine SinceOf.setCell ?_ (by first | exact Nat.le_refl _ | (simp; done) | omega | (simp; omega)) _)))) hs6⟩
        · rw [HT.out.2.2, List.length_append, l3, l4]; first | rfl | (simp [Act.put]; done)
        · rw [HT.out.2.2]; simpa using hown6
set_option maxRecDepth 100000 in
set_option maxHeartbeats 8000000 in
theorem checked_any (A : Option Addr) (c : Nat) (u : List (Int × Int)) (w : World) (h : IsVecs w A c u) (hc : u.length ≤ c) (hn : u.length ≤ 100000) :
    Calls Try.prog 65 #[.slice A u.length c] w fun e w' => ∃ A' c', e = .returned (.tuple #[.slice A' (checkedV u).1.length c', .int .i64 (checkedV u).2]) ∧ IsVecs w' A' c' (checkedV u).1 ∧ (checkedV u).1.length ≤ c' ∧ (A' = none ∨ A' = A) ∧ SinceOf w w' := by
  have H := Lib.hid (And.intro h hc)
  obtain ⟨V, hV⟩ : ∃ V, V = checkedV u := ⟨_, rfl⟩
  rw [← hV]
  have hV2 : V = if u.all inV then (if 160 < u.length then ([], 9) else (u, 0)) else ([], 2) := hV
  have HV := Lib.hid hV2
  clear h hc hV hV2
  go_enter Try.func65, Try.ntmps65
  go_wp2_with fail
  go_loopg [4] u.length (fun gas s4 wr => ∃ i : Nat, i ≤ u.length ∧ u.length - i ≤ gas ∧ s4 = .int .i64 i ∧ LaterOf w wr ∧ u.all inV = (u.drop i).all inV)
  case atStart => exact ⟨0, by omega, by omega, by go_num, by (repeat (first | (with_reducible exact LaterOf.refl _) | (with_reducible refine LaterOf.alloc ?_ _) | (with_reducible refine LaterOf.drew ?_) | (with_reducible refine LaterOf.drewN ?_ _) | (with_reducible refine LaterOf.later ?_ _) | (with_reducible refine LaterOf.setCell ?_ (by first | exact Nat.le_refl _ | (simp; done) | omega | (simp; omega)) _))), by rw [List.drop_zero]⟩
  case round =>
    obtain ⟨i, hi, hgas, rfl, ⟨z, rfl⟩, hall⟩ := hrel
    by_cases hlt : i < u.length
    · rw [all_dropV _ hlt] at hall
      have hc := (H.out.1.of (LaterOf.since ⟨z, rfl⟩))
      obtain ⟨g, off, rfl, hr⟩ := hc.at_ (by omega)
      have hO := hr.there
      have k0 := hr.v0 i hlt
      have k1 := hr.v1 i hlt
      have C := refWithin_any u[i].1 u[i].2 8000
      rw [show withinB u[i].1 u[i].2 8000 = inV u[i] from rfl] at C
      generalize inV u[i] = b at *
      generalize u[i].1 = px at *
      generalize u[i].2 = py at *
      clear hc hr
      cases b
      · rw [Bool.false_and] at hall
        have HA := Lib.hid hall
        clear hall
        go_wp2_with fail
        refine (C _).calls.mono ?_
        rintro e _ ⟨rfl, x1, rfl⟩
        go_wp2_with fail
        go_returns
        refine ⟨none, 0, ?_, ?_, ?_, .inl rfl, by (repeat (first | (with_reducible exact SinceOf.refl _) | (with_reducible assumption) | (with_reducible refine SinceOf.alloc ?_ _) | (with_reducible refine SinceOf.drew ?_) | (with_reducible refine SinceOf.drewN ?_ _) | (with_reducible refine SinceOf.later ?_ _) | (with_reducible refine SinceOf.further ?_ _) | (with_reducible refine SinceOf.setCell ?_ (by first | exact Nat.le_refl _ | (simp; done) | omega | (simp; omega)) _)))⟩
        · rw [HV.out, HA.out]; rfl
        · rw [HV.out, HA.out]; exact IsRow.nil _ _ _
        · rw [HV.out, HA.out]; exact Nat.le_refl _
      · rw [Bool.true_and] at hall
        have HA := Lib.hid hall
        clear hall
        go_wp2_with fail
        refine (C _).calls.mono ?_
        rintro e _ ⟨rfl, x1, rfl⟩
        go_wp2_with fail
        go_roundg (u.length - (i + 1))
        case measure => omega
        case rel => exact ⟨i + 1, hlt, Nat.le_refl _, by go_num, by (repeat (first | (with_reducible exact LaterOf.refl _) | (with_reducible refine LaterOf.alloc ?_ _) | (with_reducible refine LaterOf.drew ?_) | (with_reducible refine LaterOf.drewN ?_ _) | (with_reducible refine LaterOf.later ?_ _) | (with_reducible refine LaterOf.setCell ?_ (by first | exact Nat.le_refl _ | (simp; done) | omega | (simp; omega)) _))), HA.out⟩
    · obtain rfl : i = u.length := by omega
      rw [List.drop_length] at hall
      have HA := Lib.hid hall
      clear hall
      by_cases h160 : 160 < u.length
      · have g160 : decide ((160 : Int) < (u.length : Int)) = true := decide_eq_true (by omega)
        have HB2 := Lib.hid h160
        clear h160
        go_wp2_with fail
        go_returns
        refine ⟨none, 0, ?_, ?_, ?_, .inl rfl, by (repeat (first | (with_reducible exact SinceOf.refl _) | (with_reducible assumption) | (with_reducible refine SinceOf.alloc ?_ _) | (with_reducible refine SinceOf.drew ?_) | (with_reducible refine SinceOf.drewN ?_ _) | (with_reducible refine SinceOf.later ?_ _) | (with_reducible refine SinceOf.further ?_ _) | (with_reducible refine SinceOf.setCell ?_ (by first | exact Nat.le_refl _ | (simp; done) | omega | (simp; omega)) _)))⟩
        · rw [HV.out, HA.out, if_pos (by rfl), if_pos HB2.out]; rfl
        · rw [HV.out, HA.out, if_pos (by rfl), if_pos HB2.out]; exact IsRow.nil _ _ _
        · rw [HV.out, HA.out, if_pos (by rfl), if_pos HB2.out]; exact Nat.le_refl _
      · have g160 : decide ((160 : Int) < (u.length : Int)) = false := decide_eq_false (by omega)
        have HB2 := Lib.hid h160
        clear h160
        go_wp2_with fail
        go_returns
        refine ⟨A, c, ?_, ?_, ?_, .inr rfl, by (repeat (first | (with_reducible exact SinceOf.refl _) | (with_reducible assumption) | (with_reducible refine SinceOf.alloc ?_ _) | (with_reducible refine SinceOf.drew ?_) | (with_reducible refine SinceOf.drewN ?_ _) | (with_reducible refine SinceOf.later ?_ _) | (with_reducible refine SinceOf.further ?_ _) | (with_reducible refine SinceOf.setCell ?_ (by first | exact Nat.le_refl _ | (simp; done) | omega | (simp; omega)) _)))⟩
        · rw [HV.out, HA.out, if_pos (by rfl), if_neg HB2.out]; rfl
        · rw [HV.out, HA.out, if_pos (by rfl), if_neg HB2.out]; exact H.out.1.of (by (repeat (first | (with_reducible exact SinceOf.refl _) | (with_reducible assumption) | (with_reducible refine SinceOf.alloc ?_ _) | (with_reducible refine SinceOf.drew ?_) | (with_reducible refine SinceOf.drewN ?_ _) | (with_reducible refine SinceOf.later ?_ _) | (with_reducible refine SinceOf.further ?_ _) | (with_reducible refine SinceOf.setCell ?_ (by first | exact Nat.le_refl _ | (simp; done) | omega | (simp; omega)) _))))
        · rw [HV.out, HA.out, if_pos (by rfl), if_neg HB2.out]; exact H.out.2
end Go.Proofs.Ytbienlhofkfdpaa
