/- Layer 52: the conversion of schedules. -/
import Derived.Test.YtdcncalcncomoaaSch13
namespace Go.Proofs.Ytdcncalcncomoaa
open Go.RowKit Go.Sort
set_option linter.unusedVariables false
attribute [local go_sem ↓] Go.wp_at_zero Go.wp_at_succ

theorem encS_one (p : SlotR) : ∀ u ∈ encS p, u.oneCell' = true := by
  intro u hu; simp [encS] at hu; rcases hu with rfl | rfl | rfl | rfl <;> rfl
theorem infoSlot : (Try.prog.info? 34).map (fun i => (i.zero, i.size, i.bytes)) = some (some (.agg #[.int .i64 0, .int .i64 0, .int .i64 0, .int .i64 0]), 4, 32) := by kernel_rfl
theorem rowS_at (W : World) (g : Nat) (x : SlotR) (t : TypeId) (hg : W.heap.size = g) : IsSlots (W.alloc (.cells #[.int .i64 x.job, .int .i64 x.mach, .int .i64 x.start, .int .i64 x.stop] t)) (some ⟨g, 0, none⟩) 1 [x] := by
  subst hg
  refine ⟨(by intro h; cases h), .inr ⟨_, 0, rfl, fun i hi j u hu => ?_, inferInstance⟩⟩
  have hi0 : i = 0 := by simp at hi; omega
  subst hi0
  have hj : j < 4 := by
    have := (List.getElem?_eq_some_iff.1 hu).1
    rwa [show ([x][0]'hi) = x from rfl, encS_len] at this
  match j, hj with
  | 0, _ => simp [encS] at hu; subst hu; simp [go_sem]
  | 1, _ => simp [encS] at hu; subst hu; simp [go_sem]
  | 2, _ => simp [encS] at hu; subst hu; simp [go_sem]
  | 3, _ => simp [encS] at hu; subst hu; simp [go_sem]
set_option maxRecDepth 100000 in
set_option maxHeartbeats 4000000 in
theorem slots_any (A : Option Addr) (c : Nat) (l : List SlotR) (w : World) (hl : IsSlots w A c l) (hll : l.length ≤ 1000000) :
    Calls Try.prog 11 #[.slice A l.length c] w fun e w' => ∃ A' c', e = .returned (.slice A' l.length c') ∧ Owns encS 4 w.heap.size 34 w' A' c' l ∧ SinceOf w w' := by
  have H := Lib.hid hl
  clear hl
  obtain ⟨i0, hi, hz0, hz1, hz2⟩ := info_parts infoSlot
  have HI := Lib.hid (And.intro hi (And.intro hz0 (And.intro hz1 hz2)))
  clear hi hz0 hz1 hz2
  go_enter Try.func11, Try.ntmps11
  go_wp2_with fail
  go_loopg [3, 8] l.length (fun gas s3 s8 wr => ∃ (k : Nat) (A2 : Option Addr) (c2 : Nat), k ≤ l.length ∧ l.length - k ≤ gas ∧ s3 = .slice A2 (l.take k).length c2 ∧ s8 = .int .i64 k ∧ Owns encS 4 w.heap.size 34 wr A2 c2 (l.take k) ∧ SinceOf w wr)
  case atStart => exact ⟨0, none, 0, by omega, by omega, rfl, rfl, Owns.nil _ _ _ _ _, SinceOf.refl _⟩
  case round =>
    obtain ⟨k, A2, c2, hk, hgas, rfl, rfl, hown, ⟨z, rfl⟩⟩ := hrel
    by_cases hlt : k < l.length
    · have hr0 := H.out.of (w' := z.wd) ⟨z, rfl⟩
      obtain ⟨g, off, rfl, hr⟩ := hr0.at_ (by omega)
      have hO := hr.there
      have s0 := hr.s0 k hlt
      have s1 := hr.s1 k hlt
      have s2 := hr.s2 k hlt
      have s3 := hr.s3 k hlt
      have hts := List.take_succ_eq_append_getElem hlt
      have htl : (l.take k).length = k := by rw [List.length_take]; omega
      generalize l[k] = x at *
      have HH := Lib.hid (And.intro hown (And.intro hts htl))
      generalize l.take k = m at *
      clear hown hts htl hr hr0
      go_wp2_with (at_builtin; refine wpList_append_row rfl (.tmp 12) (.tmp 14) 44 rfl encS_len (by omega) encS_one i0 _ 32 Try.underlying44 HI.out.1 HI.out.2.1 HI.out.2.2.1 HI.out.2.2.2 rfl (l := m) (A := A2) (c := c2) (base := w.heap.size) rfl ((HH.out.1.alloc _).alloc _) (m := [x]) rfl (rowS_at _ _ x _ (by first | rfl | simp)) (by have := HH.out.2.2; unfold maxLen; simp; omega) (by have := HH.out.2.2; simp; omega) (by have := z.size; simp; omega) ?_; intro A3 c3 w3 hown3 hgr3 hbl3)
      go_roundg (l.length - (k + 1))
      case measure => omega
      case rel =>
        refine ⟨k + 1, A3, c3, hlt, Nat.le_refl _, by rw [HH.out.2.1, List.length_append]; rfl, by go_num, by rw [HH.out.2.1]; exact hown3, ?_⟩
        exact SinceOf.grown (SinceOf.alloc (SinceOf.alloc ⟨z, rfl⟩ _) _) hgr3 (fun b hb => (HH.out.1.below b hb).1)
    · have hkl : k = l.length := by omega
      have e : l.take k = l := by rw [hkl, List.take_length]
      rw [e] at hown
      rw [e]
      have HH := Lib.hid hown
      clear hown e hkl
      go_wp2_with fail
      go_returns
      exact ⟨A2, c2, rfl, HH.out, ⟨z, rfl⟩⟩
end Go.Proofs.Ytdcncalcncomoaa
/- Layer 52: the conversions of schedules back, and of jobs. -/
namespace Go.Proofs.Ytdcncalcncomoaa
open Go.RowKit Go.Sort
set_option linter.unusedVariables false
attribute [local go_sem ↓] Go.wp_at_zero Go.wp_at_succ

theorem infoSlotR : (Try.prog.info? 46).map (fun i => (i.zero, i.size, i.bytes)) = some (some (.agg #[.int .i64 0, .int .i64 0, .int .i64 0, .int .i64 0]), 4, 32) := by kernel_rfl
theorem encJ_len (p : JobR) : (encJ p).length = 6 := rfl
theorem encJ_one (p : JobR) : ∀ u ∈ encJ p, u.oneCell' = true := by
  intro u hu; simp [encJ] at hu; rcases hu with rfl | rfl | rfl | rfl | rfl | rfl <;> rfl
theorem infoJob : (Try.prog.info? 75).map (fun i => (i.zero, i.size, i.bytes)) = some (some (.agg #[.slice none 0 0, .int .i64 0, .int .i64 0, .int .i64 0, .int .i64 0, .int .i64 0]), 6, 64) := by kernel_rfl
theorem rowJ_at (W : World) (g : Nat) (x : JobR) (t : TypeId) (hg : W.heap.size = g) : IsRow encJ 6 (W.alloc (.cells #[.slice x.A x.ms.length x.c, .int .i64 x.dur, .int .i64 x.cls, .int .i64 x.rel, .int .i64 x.due, .int .i64 x.ord] t)) (some ⟨g, 0, none⟩) 1 [x] := by
  subst hg
  refine ⟨(by intro h; cases h), .inr ⟨_, 0, rfl, fun i hi j u hu => ?_, inferInstance⟩⟩
  have hi0 : i = 0 := by simp at hi; omega
  subst hi0
  have hj : j < 6 := by
    have := (List.getElem?_eq_some_iff.1 hu).1
    rwa [show ([x][0]'hi) = x from rfl, encJ_len] at this
  match j, hj with
  | 0, _ => simp [encJ] at hu; subst hu; simp [go_sem]
  | 1, _ => simp [encJ] at hu; subst hu; simp [go_sem]
  | 2, _ => simp [encJ] at hu; subst hu; simp [go_sem]
  | 3, _ => simp [encJ] at hu; subst hu; simp [go_sem]
  | 4, _ => simp [encJ] at hu; subst hu; simp [go_sem]
  | 5, _ => simp [encJ] at hu; subst hu; simp [go_sem]
set_option maxRecDepth 100000 in
set_option maxHeartbeats 4000000 in
theorem theirs_any (A : Option Addr) (c : Nat) (l : List SlotR) (w : World) (hl : IsSlots w A c l) (hll : l.length ≤ 1000000) :
    Calls Try.prog 19 #[.slice A l.length c] w fun e w' => ∃ A' c', e = .returned (.slice A' l.length c') ∧ Owns encS 4 w.heap.size 46 w' A' c' l ∧ SinceOf w w' := by
  have H := Lib.hid hl
  clear hl
  obtain ⟨i0, hi, hz0, hz1, hz2⟩ := info_parts infoSlotR
  have HI := Lib.hid (And.intro hi (And.intro hz0 (And.intro hz1 hz2)))
  clear hi hz0 hz1 hz2
  go_enter Try.func19, Try.ntmps19
  go_wp2_with fail
  go_loopg [3, 8] l.length (fun gas s3 s8 wr => ∃ (k : Nat) (A2 : Option Addr) (c2 : Nat), k ≤ l.length ∧ l.length - k ≤ gas ∧ s3 = .slice A2 (l.take k).length c2 ∧ s8 = .int .i64 k ∧ Owns encS 4 w.heap.size 46 wr A2 c2 (l.take k) ∧ SinceOf w wr)
  case atStart => exact ⟨0, none, 0, by omega, by omega, rfl, rfl, Owns.nil _ _ _ _ _, SinceOf.refl _⟩
  case round =>
    obtain ⟨k, A2, c2, hk, hgas, rfl, rfl, hown, ⟨z, rfl⟩⟩ := hrel
    by_cases hlt : k < l.length
    · have hr0 := H.out.of (w' := z.wd) ⟨z, rfl⟩
      obtain ⟨g, off, rfl, hr⟩ := hr0.at_ (by omega)
      have hO := hr.there
      have s0 := hr.s0 k hlt
      have s1 := hr.s1 k hlt
      have s2 := hr.s2 k hlt
      have s3 := hr.s3 k hlt
      have hts := List.take_succ_eq_append_getElem hlt
      have htl : (l.take k).length = k := by rw [List.length_take]; omega
      generalize l[k] = x at *
      have HH := Lib.hid (And.intro hown (And.intro hts htl))
      generalize l.take k = m at *
      clear hown hts htl hr hr0
      go_wp2_with (at_builtin; refine wpList_append_row rfl (.tmp 12) (.tmp 14) 29 rfl encS_len (by omega) encS_one i0 _ 32 Try.underlying29 HI.out.1 HI.out.2.1 HI.out.2.2.1 HI.out.2.2.2 rfl (l := m) (A := A2) (c := c2) (base := w.heap.size) rfl ((HH.out.1.alloc _).alloc _) (m := [x]) rfl (rowS_at _ _ x _ (by first | rfl | simp)) (by have := HH.out.2.2; unfold maxLen; simp; omega) (by have := HH.out.2.2; simp; omega) (by have := z.size; simp; omega) ?_; intro A3 c3 w3 hown3 hgr3 hbl3)
      go_roundg (l.length - (k + 1))
      case measure => omega
      case rel =>
        refine ⟨k + 1, A3, c3, hlt, Nat.le_refl _, by rw [HH.out.2.1, List.length_append]; rfl, by go_num, by rw [HH.out.2.1]; exact hown3, ?_⟩
        exact SinceOf.grown (SinceOf.alloc (SinceOf.alloc ⟨z, rfl⟩ _) _) hgr3 (fun b hb => (HH.out.1.below b hb).1)
    · have hkl : k = l.length := by omega
      have e : l.take k = l := by rw [hkl, List.take_length]
      rw [e] at hown
      rw [e]
      have HH := Lib.hid hown
      clear hown e hkl
      go_wp2_with fail
      go_returns
      exact ⟨A2, c2, rfl, HH.out, ⟨z, rfl⟩⟩
set_option maxRecDepth 100000 in
set_option maxHeartbeats 4000000 in
theorem jobs_any (A : Option Addr) (c : Nat) (l : List JobR) (w : World) (hl : IsRow encJ 6 w A c l) (hll : l.length ≤ 1000000) :
    Calls Try.prog 10 #[.slice A l.length c] w fun e w' => ∃ A' c', e = .returned (.slice A' l.length c') ∧ Owns encJ 6 w.heap.size 75 w' A' c' l ∧ SinceOf w w' := by
  have H := Lib.hid hl
  clear hl
  obtain ⟨i0, hi, hz0, hz1, hz2⟩ := info_parts infoJob
  have HI := Lib.hid (And.intro hi (And.intro hz0 (And.intro hz1 hz2)))
  clear hi hz0 hz1 hz2
  go_enter Try.func10, Try.ntmps10
  go_wp2_with fail
  go_loopg [3, 8] l.length (fun gas s3 s8 wr => ∃ (k : Nat) (A2 : Option Addr) (c2 : Nat), k ≤ l.length ∧ l.length - k ≤ gas ∧ s3 = .slice A2 (l.take k).length c2 ∧ s8 = .int .i64 k ∧ Owns encJ 6 w.heap.size 75 wr A2 c2 (l.take k) ∧ SinceOf w wr)
  case atStart => exact ⟨0, none, 0, by omega, by omega, rfl, rfl, Owns.nil _ _ _ _ _, SinceOf.refl _⟩
  case round =>
    obtain ⟨k, A2, c2, hk, hgas, rfl, rfl, hown, ⟨z, rfl⟩⟩ := hrel
    by_cases hlt : k < l.length
    · have hr0 := H.out.of (w' := z.wd) ⟨z, rfl⟩
      obtain ⟨g, off, rfl, hr⟩ := hr0.at_ (by omega)
      have hO := hr.there
      have s0 := hr.j0 k hlt
      have s1 := hr.j1 k hlt
      have s2 := hr.j2 k hlt
      have s3 := hr.j3 k hlt
      have s4 := hr.j4 k hlt
      have s5 := hr.j5 k hlt
      have hts := List.take_succ_eq_append_getElem hlt
      have htl : (l.take k).length = k := by rw [List.length_take]; omega
      generalize l[k] = x at *
      have HH := Lib.hid (And.intro hown (And.intro hts htl))
      generalize l.take k = m at *
      clear hown hts htl hr hr0
      go_wp2_with (at_builtin; refine wpList_append_row rfl (.tmp 12) (.tmp 14) 42 rfl encJ_len (by omega) encJ_one i0 _ 64 Try.underlying42 HI.out.1 HI.out.2.1 HI.out.2.2.1 HI.out.2.2.2 rfl (l := m) (A := A2) (c := c2) (base := w.heap.size) rfl ((HH.out.1.alloc _).alloc _) (m := [x]) rfl (rowJ_at _ _ x _ (by first | rfl | simp)) (by have := HH.out.2.2; unfold maxLen; simp; omega) (by have := HH.out.2.2; simp; omega) (by have := z.size; simp; omega) ?_; intro A3 c3 w3 hown3 hgr3 hbl3)
      go_roundg (l.length - (k + 1))
      case measure => omega
      case rel =>
        refine ⟨k + 1, A3, c3, hlt, Nat.le_refl _, by rw [HH.out.2.1, List.length_append]; rfl, by go_num, by rw [HH.out.2.1]; exact hown3, ?_⟩
        exact SinceOf.grown (SinceOf.alloc (SinceOf.alloc ⟨z, rfl⟩ _) _) hgr3 (fun b hb => (HH.out.1.below b hb).1)
    · have hkl : k = l.length := by omega
      have e : l.take k = l := by rw [hkl, List.take_length]
      rw [e] at hown
      rw [e]
      have HH := Lib.hid hown
      clear hown e hkl
      go_wp2_with fail
      go_returns
      exact ⟨A2, c2, rfl, HH.out, ⟨z, rfl⟩⟩
end Go.Proofs.Ytdcncalcncomoaa
/- Layer 52: the law's near. -/
namespace Go.Proofs.Ytdcncalcncomoaa
open Go.RowKit Go.Sort
set_option linter.unusedVariables false
attribute [local go_sem ↓] Go.wp_at_zero Go.wp_at_succ

def farB (x : SlotR) : Bool := (decide (20000 < x.start) && decide (x.start ≤ 1000000)) || (decide (20000 < x.stop) && decide (x.stop ≤ 1000000))
def nearL (l : List SlotR) : Bool := !l.any farB && decide ((l.length : Int) ≤ 10)
set_option maxRecDepth 100000 in
set_option maxHeartbeats 4000000 in
theorem near_any (A : Option Addr) (c : Nat) (l : List SlotR) (w : World) (hl : IsSlots w A c l) (hll : l.length < 4611686018427387904) :
    Gives Try.prog 7 #[.slice A l.length c] w (.bool (nearL l)) := by
  apply Gives.ret
  obtain ⟨res, hres⟩ : ∃ v, v = nearL l := ⟨_, rfl⟩
  rw [← hres]
  have H := Lib.hid (And.intro hl hres)
  clear hl hres
  go_enter Try.func7, Try.ntmps7
  go_wp2_with fail
  go_loopg [7] l.length (fun gas s7 wr => ∃ k : Nat, k ≤ l.length ∧ l.length - k ≤ gas ∧ s7 = .int .i64 k ∧ LaterOf w wr ∧ l.any farB = (l.drop k).any farB)
  case atStart => exact ⟨0, by omega, by omega, rfl, by (repeat (first | (with_reducible exact LaterOf.refl _) | (with_reducible refine LaterOf.alloc ?_ _) | (with_reducible refine LaterOf.drew ?_) | (with_reducible refine LaterOf.drewN ?_ _) | (with_reducible refine LaterOf.later ?_ _) | (with_reducible refine LaterOf.setCell ?_ (by first | exact Nat.le_refl _ | (simp; done) | omega | (simp; omega)) _))), by rw [List.drop_zero]⟩
  case round =>
    obtain ⟨k, hk, hgas, rfl, ⟨z, rfl⟩, hany⟩ := hrel
    by_cases hlt : k < l.length
    · rw [any_drop farB hlt] at hany
      have hr0 := H.out.1.of (LaterOf.since ⟨z, rfl⟩)
      obtain ⟨g, off, rfl, hr⟩ := hr0.at_ (by omega)
      have hO := hr.there
      have s0 := hr.s0 k hlt
      have s1 := hr.s1 k hlt
      have s2 := hr.s2 k hlt
      have s3 := hr.s3 k hlt
      obtain ⟨⟨xj, xm, xs, xe⟩, hx⟩ : ∃ x, x = l[k] := ⟨_, rfl⟩
      rw [← hx] at hany s0 s1 s2 s3
      simp only at s0 s1 s2 s3
      have hf : farB ⟨xj, xm, xs, xe⟩ = ((decide (20000 < xs) && decide (xs ≤ 1000000)) || (decide (20000 < xe) && decide (xe ≤ 1000000))) := rfl
      have hcase : ((decide (20000 < xs) = true ∧ decide (xs ≤ 1000000) = true ∧ farB ⟨xj, xm, xs, xe⟩ = true) ∨ (decide (20000 < xs) = true ∧ decide (xs ≤ 1000000) = false ∧ decide (20000 < xe) = true ∧ decide (xe ≤ 1000000) = true ∧ farB ⟨xj, xm, xs, xe⟩ = true) ∨ (decide (20000 < xs) = false ∧ decide (20000 < xe) = true ∧ decide (xe ≤ 1000000) = true ∧ farB ⟨xj, xm, xs, xe⟩ = true)) ∨
          ((decide (20000 < xs) = true ∧ decide (xs ≤ 1000000) = false ∧ decide (20000 < xe) = true ∧ decide (xe ≤ 1000000) = false ∧ farB ⟨xj, xm, xs, xe⟩ = false) ∨ (decide (20000 < xs) = true ∧ decide (xs ≤ 1000000) = false ∧ decide (20000 < xe) = false ∧ farB ⟨xj, xm, xs, xe⟩ = false) ∨ (decide (20000 < xs) = false ∧ decide (20000 < xe) = true ∧ decide (xe ≤ 1000000) = false ∧ farB ⟨xj, xm, xs, xe⟩ = false) ∨ (decide (20000 < xs) = false ∧ decide (20000 < xe) = false ∧ farB ⟨xj, xm, xs, xe⟩ = false)) := by
        rw [hf]
        cases decide (20000 < xs) <;> cases decide (xs ≤ 1000000) <;> cases decide (20000 < xe) <;> cases decide (xe ≤ 1000000) <;> simp
      clear hf hr hr0 hx
      rcases hcase with hcase | hcase
      · have hfar : farB ⟨xj, xm, xs, xe⟩ = true := by rcases hcase with h | h | h <;> simp [h]
        rw [hfar, Bool.true_or] at hany
        have HA := Lib.hid hany
        clear hany hfar
        rcases hcase with ⟨f1, f2, -⟩ | ⟨f1, f2, f3, f4, -⟩ | ⟨f1, f2, f3, -⟩
        all_goals
          go_wp2_with fail
          go_returns
          exact ⟨by rw [H.out.2]; unfold nearL; rw [HA.out]; rfl, by (repeat (first | (with_reducible exact LaterOf.refl _) | (with_reducible refine LaterOf.alloc ?_ _) | (with_reducible refine LaterOf.drew ?_) | (with_reducible refine LaterOf.drewN ?_ _) | (with_reducible refine LaterOf.later ?_ _) | (with_reducible refine LaterOf.setCell ?_ (by first | exact Nat.le_refl _ | (simp; done) | omega | (simp; omega)) _)))⟩
      · have hfar : farB ⟨xj, xm, xs, xe⟩ = false := by rcases hcase with h | h | h | h <;> simp [h]
        rw [hfar, Bool.false_or] at hany
        have HA := Lib.hid hany
        clear hany hfar
        rcases hcase with ⟨f1, f2, f3, f4, -⟩ | ⟨f1, f2, f3, -⟩ | ⟨f1, f2, f3, -⟩ | ⟨f1, f2, -⟩
        all_goals
          go_wp2_with fail
          go_roundg (l.length - (k + 1))
          case measure => omega
          case rel => exact ⟨k + 1, hlt, Nat.le_refl _, by go_num, by (repeat (first | (with_reducible exact LaterOf.refl _) | (with_reducible refine LaterOf.alloc ?_ _) | (with_reducible refine LaterOf.drew ?_) | (with_reducible refine LaterOf.drewN ?_ _) | (with_reducible refine LaterOf.later ?_ _) | (with_reducible refine LaterOf.setCell ?_ (by first | exact Nat.le_refl _ | (simp; done) | omega | (simp; omega)) _))), HA.out⟩
    · have hkl : k = l.length := by omega
      rw [hkl, List.drop_length] at hany
      have HA := Lib.hid hany
      clear hany hkl
      go_wp2_with fail
      go_returns
      exact ⟨by rw [H.out.2]; unfold nearL; rw [HA.out]; simp, by (repeat (first | (with_reducible exact LaterOf.refl _) | (with_reducible refine LaterOf.alloc ?_ _) | (with_reducible refine LaterOf.drew ?_) | (with_reducible refine LaterOf.drewN ?_ _) | (with_reducible refine LaterOf.later ?_ _) | (with_reducible refine LaterOf.setCell ?_ (by first | exact Nat.le_refl _ | (simp; done) | omega | (simp; omega)) _)))⟩
end Go.Proofs.Ytdcncalcncomoaa
