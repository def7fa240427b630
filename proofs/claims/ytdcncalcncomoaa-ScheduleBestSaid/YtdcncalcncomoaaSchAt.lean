/- Layer 52: the conversions of jobs and of shops. -/
import Derived.Test.YtdcncalcncomoaaSch28
import Derived.Test.YtdcncalcncomoaaSch30
namespace Go.Proofs.Ytdcncalcncomoaa
open Go.RowKit Go.Sort
set_option linter.unusedVariables false
attribute [local go_sem ↓] Go.wp_at_zero Go.wp_at_succ

theorem jobs52_any (A : Option Addr) (c : Nat) (L : List JobR) (w : World) (h : IsJobs w A c L) (hll : L.length ≤ 1000000) :
    Calls Try.prog 10 #[.slice A L.length c] w fun e w' => ∃ A' c', e = .returned (.slice A' L.length c') ∧ IsJobs w' A' c' L ∧ SinceOf w w' :=
  (jobs_any A c L w h.row hll).mono fun e w' ⟨A', c', he, ho, hs⟩ => ⟨A', c', he, ⟨ho.isRow encJ_len, fun j hj => ⟨(h.all j hj).1.of hs, (h.all j hj).2⟩, h.len⟩, hs⟩
theorem infoCal : (Try.prog.info? 74).map (fun i => (i.zero, i.size, i.bytes)) = some (some (.agg #[.int .i64 0, .slice none 0 0, .slice none 0 0]), 3, 56) := by kernel_rfl
theorem encC_one (p : CalR) : ∀ u ∈ encC p, u.oneCell' = true := by
  intro u hu; simp [encC] at hu; rcases hu with rfl | rfl | rfl <;> rfl
theorem rowC_at (W : World) (g : Nat) (x : CalR) (t : TypeId) (hg : W.heap.size = g) : IsRow encC 3 (W.alloc (.cells #[.int .i64 x.P, .slice x.A x.S.length x.c, .slice x.B x.D.length x.d] t)) (some ⟨g, 0, none⟩) 1 [x] := by
  subst hg; exact isRow_lit encC_len _ _ _ _ 1 [x] rfl rfl (by simp) rfl
def withCals (s : ShopR) (A : Option Addr) (c : Nat) : ShopR := ⟨A, c, s.cals, s.B, s.d, s.rows, s.most⟩
/-- The shop that is made, in a block. -/
structure OutAt (w : World) (g : Nat) (A : Option Addr) (n c : Nat) (B : Option Addr) (k d : Nat) (m : Int) : Prop where
  c0 : w.cell? ⟨g, 0, none⟩ = some (.slice A n c)
  c1 : w.cell? ⟨g, 1, none⟩ = some (.slice B k d)
  c2 : w.cell? ⟨g, 2, none⟩ = some (.int .i64 m)
  f0 : w.frozen? ⟨g, 0, none⟩ = false
  there : Nonempty (Old w g)
set_option maxRecDepth 100000 in
set_option maxHeartbeats 4000000 in
theorem own52_any (s : ShopR) (w : World) (hs : IsShop w s) (hll : s.cals.length ≤ 1000000) :
    Calls Try.prog 9 #[shopV s] w fun e w' => ∃ A' c', e = .returned (shopV (withCals s A' c')) ∧ IsShop w' (withCals s A' c') ∧ (∀ b, blockOf A' = some b → w.heap.size ≤ b ∧ b < w'.heap.size) ∧ SinceOf w w' := by
  have H := Lib.hid hs
  obtain ⟨i0, hi, hz0, hz1, hz2⟩ := info_parts infoCal
  have HI := Lib.hid (And.intro hi (And.intro hz0 (And.intro hz1 hz2)))
  have hcr := hs.cals.row
  obtain ⟨sA, sc, cals, sB, sd, R, most⟩ := s
  simp only at hcr hll
  have HR := Lib.hid hcr
  clear hi hz0 hz1 hz2 hs hcr
  go_enter Try.func9, Try.ntmps9
  go_wp2_with fail
  go_loopg [14] cals.length (fun gas s14 wr => ∃ (k : Nat) (A2 : Option Addr) (c2 : Nat), k ≤ cals.length ∧ cals.length - k ≤ gas ∧ s14 = .int .i64 k ∧ Owns encC 3 (w.heap.size + 3) 74 wr A2 c2 (cals.take k) ∧ OutAt wr (w.heap.size + 1 + 1) A2 k c2 sB R.length sd most ∧ SinceOf ((w.alloc (.cells #[.slice sA cals.length sc, .slice sB R.length sd, .int .i64 most] 25)).alloc (.cells #[.slice none 0 0, .slice none 0 0, .int .i64 0] 40)) wr)
  case atStart => exact ⟨0, none, 0, by omega, by omega, rfl, Owns.nil _ _ _ _ _, ⟨by simp [go_sem], by simp [go_sem], by simp [go_sem], by simp [go_sem], inferInstance⟩, by (repeat (first | (with_reducible exact SinceOf.refl _) | (with_reducible assumption) | (with_reducible refine SinceOf.alloc ?_ _) | (with_reducible refine SinceOf.drew ?_) | (with_reducible refine SinceOf.drewN ?_ _) | (with_reducible refine SinceOf.later ?_ _) | (with_reducible refine SinceOf.further ?_ _) | (with_reducible refine SinceOf.setCell ?_ (by first | exact Nat.le_refl _ | (simp; done) | omega | (simp; omega)) _)))⟩
  case round =>
    obtain ⟨k, A2, c2, hk, hgas, rfl, hown, hout, ⟨z, rfl⟩⟩ := hrel
    by_cases hlt : k < cals.length
    · have hr0 := HR.out.of (w' := z.wd) (by (repeat (first | (with_reducible exact SinceOf.refl _) | (with_reducible assumption) | (with_reducible refine SinceOf.alloc ?_ _) | (with_reducible refine SinceOf.drew ?_) | (with_reducible refine SinceOf.drewN ?_ _) | (with_reducible refine SinceOf.later ?_ _) | (with_reducible refine SinceOf.further ?_ _) | (with_reducible refine SinceOf.setCell ?_ (by first | exact Nat.le_refl _ | (simp; done) | omega | (simp; omega)) _))))
      obtain ⟨g, off, rfl, hr⟩ := hr0.at_ (by omega)
      have hO1 := hr.there
      have j0 := hr.k0 k hlt
      have j1 := hr.k1 k hlt
      have j2 := hr.k2 k hlt
      have hts := List.take_succ_eq_append_getElem hlt
      have htl : (cals.take k).length = k := by rw [List.length_take]; omega
      obtain ⟨o0, o1, o2, q0, hO⟩ := hout
      have hzs := z.size
      generalize cals[k] = x at *
      obtain ⟨xP, xA, xc, xS, xB, xd, xD⟩ := x
      simp only at j0 j1 j2
      have HH := Lib.hid (And.intro hown (And.intro hts (And.intro htl HI.out)))
      rw [← htl] at o0
      have hm1 : (cals.take k).length ≤ 1000000 := by omega
      generalize cals.take k = m at *
      have hOs := hO.elim fun q => q.lt
      have hne2 : some z.wd.heap.size ≠ blockOf A2 := fun e => by have := (hown.below _ e.symm).2; omega
      have hne : some (w.heap.size + 1 + 1) ≠ blockOf A2 := fun e => by have := (hown.below _ e.symm).1; omega
      clear hown hts hr hr0 htl
      go_wp2_with fail
      go_region_law
        (first
          | (go_simp; go_at_call 30; refine (own_any _ _ _ _ _ _ _ _).calls.mono ?_; rintro e _ ⟨rfl, z1, rfl⟩; (try dsimp only))
          | (refine step_append_row (by rfl) (.tmp 19) (.tmp 22) 38 (by rfl) encC_len (by omega) encC_one i0 _ 56 Try.underlying38 HH.out.2.2.2.1 HH.out.2.2.2.2.1 HH.out.2.2.2.2.2.1 HH.out.2.2.2.2.2.2 rfl (l := m) (A := A2) (c := c2) (base := w.heap.size + 3) (by rfl) (HH.out.1.of (by (repeat (first | (with_reducible exact SinceOf.refl _) | (with_reducible assumption) | (with_reducible refine SinceOf.alloc ?_ _) | (with_reducible refine SinceOf.drew ?_) | (with_reducible refine SinceOf.drewN ?_ _) | (with_reducible refine SinceOf.later ?_ _) | (with_reducible refine SinceOf.further ?_ _) | (with_reducible refine SinceOf.setCell ?_ (by first | exact Nat.le_refl _ | (simp; done) | omega | (simp; omega)) _))))) (m := [⟨xP, xA, xc, xS, xB, xd, xD⟩]) (by rfl) (rowC_at _ _ ⟨xP, xA, xc, xS, xB, xd, xD⟩ _ (by first | rfl | simp)) (by unfold maxLen; simp; omega) (by simp; omega) (by have := z1.size; simp at this ⊢; omega) ?_; intro A3 c3 w4 ho hgr4 hb4; have n0 : w4.cell? ⟨w.heap.size + 1 + 1, 0, none⟩ = some (.slice A2 m.length c2) := hgr4.cell (by simp [go_sem, *]) hne; have n1 : w4.cell? ⟨w.heap.size + 1 + 1, 1, none⟩ = some (.slice sB R.length sd) := hgr4.cell (by simp [go_sem, *]) hne; have n2 : w4.cell? ⟨w.heap.size + 1 + 1, 2, none⟩ = some (.int .i64 most) := hgr4.cell (by simp [go_sem, *]) hne; have nf : w4.frozen? ⟨w.heap.size + 1 + 1, 0, none⟩ = false := (World.frozen?_of_block (hgr4.block (w.heap.size + 1 + 1) (by have := z1.size; simp at this ⊢; omega) hne)).trans (by simp [go_sem, *]); have p0 : w4.cell? ⟨z.wd.heap.size, 0, none⟩ = some (.int .i64 xP) := hgr4.cell (by simp [go_sem, *]) hne2; have p1 : w4.cell? ⟨z.wd.heap.size, 1, none⟩ = some (.slice xA xS.length xc) := hgr4.cell (by simp [go_sem, *]) hne2; have p2 : w4.cell? ⟨z.wd.heap.size, 2, none⟩ = some (.slice xB xD.length xd) := hgr4.cell (by simp [go_sem, *]) hne2))
      all_goals
        go_wp2_with fail
        go_roundg (cals.length - (k + 1))
        case measure => omega
        case rel =>
          have hA3 : blockOf A3 ≠ some (w.heap.size + 1 + 1) := fun e => by have := (ho.below _ e).1; omega
          have hml := HH.out.2.2.1
          refine ⟨k + 1, A3, c3, hlt, Nat.le_refl _, by go_num, ?_, ⟨?_, (World.cell?_setCell_other _ _ _ _ (by simp)).trans n1, (World.cell?_setCell_other _ _ _ _ (by simp)).trans n2, by simpa using nf, ?_⟩, ?_⟩
          · rw [HH.out.2.1]
            exact ho.kept (grownBy_setCell (p := ⟨w.heap.size + 1 + 1, 0, none⟩) rfl _) (.inr hA3)
          · rw [← hml]
            exact World.cell?_setCell_same _ _ _ n0
          · have e1 := hgr4.size
            have e2 := z1.size
            simp at e1 e2
            exact ⟨⟨by simp; omega⟩⟩
          · exact SinceOf.setCell (SinceOf.grown (by (repeat (first | (with_reducible exact SinceOf.refl _) | (with_reducible assumption) | (with_reducible refine SinceOf.alloc ?_ _) | (with_reducible refine SinceOf.drew ?_) | (with_reducible refine SinceOf.drewN ?_ _) | (with_reducible refine SinceOf.later ?_ _) | (with_reducible refine SinceOf.further ?_ _) | (with_reducible refine SinceOf.setCell ?_ (by first | exact Nat.le_refl _ | (simp; done) | omega | (simp; omega)) _)))) hgr4 (fun b hb => by have := (HH.out.1.below b hb).1; simp; omega)) (by simp) _
    · have hkl : k = cals.length := by omega
      have e : cals.take k = cals := by rw [hkl, List.take_length]
      rw [e] at hown
      have HH := Lib.hid hown
      obtain ⟨o0, o1, o2, q0, hO⟩ := hout
      rw [hkl] at o0
      clear hown e hkl
      go_wp2_with fail
      go_returns
      have b1 : ∀ b, blockOf A2 = some b → b ≠ w.heap.size + 1 := fun b hb => by have := (HH.out.below b hb).1; omega
      exact ⟨A2, c2, rfl, ⟨⟨(((HH.out.isRow encC_len).setOther _ _ _ b1).setOther _ _ _ b1).setOther _ _ _ b1, fun x hx => (H.out.cals.all x hx).of (by (repeat (first | (with_reducible exact SinceOf.refl _) | (with_reducible assumption) | (with_reducible refine SinceOf.alloc ?_ _) | (with_reducible refine SinceOf.drew ?_) | (with_reducible refine SinceOf.drewN ?_ _) | (with_reducible refine SinceOf.later ?_ _) | (with_reducible refine SinceOf.further ?_ _) | (with_reducible refine SinceOf.setCell ?_ (by first | exact Nat.le_refl _ | (simp; done) | omega | (simp; omega)) _)))), H.out.cals.len⟩, H.out.rows.of (by (repeat (first | (with_reducible exact SinceOf.refl _) | (with_reducible assumption) | (with_reducible refine SinceOf.alloc ?_ _) | (with_reducible refine SinceOf.drew ?_) | (with_reducible refine SinceOf.drewN ?_ _) | (with_reducible refine SinceOf.later ?_ _) | (with_reducible refine SinceOf.further ?_ _) | (with_reducible refine SinceOf.setCell ?_ (by first | exact Nat.le_refl _ | (simp; done) | omega | (simp; omega)) _))))⟩, fun b hb => by have := HH.out.below b hb; simp; omega, by (repeat (first | (with_reducible exact SinceOf.refl _) | (with_reducible assumption) | (with_reducible refine SinceOf.alloc ?_ _) | (with_reducible refine SinceOf.drew ?_) | (with_reducible refine SinceOf.drewN ?_ _) | (with_reducible refine SinceOf.later ?_ _) | (with_reducible refine SinceOf.further ?_ _) | (with_reducible refine SinceOf.setCell ?_ (by first | exact Nat.le_refl _ | (simp; done) | omega | (simp; omega)) _)))⟩
end Go.Proofs.Ytdcncalcncomoaa
/- Layer 52: shops and jobs in later worlds; Own and Jobs as rows; lengths of small problems. -/
namespace Go.Proofs.Ytdcncalcncomoaa
open Go.RowKit Go.Sort
set_option linter.unusedVariables false
attribute [local go_sem ↓] Go.wp_at_zero Go.wp_at_succ

section
variable {α : Type} {enc : α → List Value} {k : Nat} {w : World} {A : Option Addr} {c : Nat} {l : List α}
theorem IsRow.allocd (h : IsRow enc k w A c l) (o : Obj) : IsRow enc k (w.alloc o) A c l := h.of ((SinceOf.refl _).alloc o)
theorem IsRow.drewd (h : IsRow enc k w A c l) : IsRow enc k w.drew A c l := h.of (SinceOf.refl _).drew
theorem IsRow.drewNd (h : IsRow enc k w A c l) (n : Nat) : IsRow enc k (w.drewN n) A c l := h.of ((SinceOf.refl _).drewN n)
end
theorem jobs52b_any (A : Option Addr) (c : Nat) (L : List JobR) (w : World) (h : IsJobs w A c L) (hll : L.length ≤ 1000000) :
    Calls Try.prog 10 #[.slice A L.length c] w fun e w' => ∃ A' c', e = .returned (.slice A' L.length c') ∧ IsRow encJ 6 w' A' c' L ∧ (∀ b, blockOf A' = some b → w.heap.size ≤ b ∧ b < w'.heap.size) ∧ SinceOf w w' :=
  (jobs_any A c L w h.row hll).mono fun e w' ⟨A', c', he, ho, hs⟩ => ⟨A', c', he, ho.isRow encJ_len, fun b hb => ho.below b hb, hs⟩
theorem own52b_any (s : ShopR) (w : World) (hs : IsShop w s) (hll : s.cals.length ≤ 1000000) :
    Calls Try.prog 9 #[shopV s] w fun e w' => ∃ A' c', e = .returned (shopV (withCals s A' c')) ∧ IsRow encC 3 w' A' c' s.cals ∧ (∀ b, blockOf A' = some b → w.heap.size ≤ b ∧ b < w'.heap.size) ∧ SinceOf w w' :=
  (own52_any s w hs hll).mono fun e w' ⟨A', c', he, ho, hb, hs⟩ => ⟨A', c', he, ho.cals.row, hb, hs⟩
theorem shop_at {w W : World} {s : ShopR} {A : Option Addr} {c : Nat} (hs : IsShop w s) (hr : IsRow encC 3 W A c s.cals) (hW : SinceOf w W) : IsShop W (withCals s A c) := ⟨⟨hr, fun x hx => (hs.cals.all x hx).of hW, hs.cals.len⟩, hs.rows.of hW⟩
theorem jobs_at {w W : World} {L : List JobR} {A B : Option Addr} {c d : Nat} (hs : IsJobs w A c L) (hr : IsRow encJ 6 W B d L) (hW : SinceOf w W) : IsJobs W B d L := ⟨hr, fun x hx => ⟨(hs.all x hx).1.of hW, (hs.all x hx).2⟩, hs.len⟩
theorem sep_symm {a b : Option Nat} (h : a = none ∨ a ≠ b) : b = none ∨ b ≠ a := by
  rcases h with rfl | h
  · cases b <;> simp
  · exact .inr fun e => h e.symm
theorem pair_of {P Q : Prop} (hp : P) (hq : P → Q) : P ∧ Q := ⟨hp, hq hp⟩
theorem few_lens {s : ShopR} {L : List JobR} (h : smallB s L = true) : s.cals.length ≤ 3 ∧ L.length ≤ 8 := by
  unfold smallB fewP at h
  simp only [Bool.and_eq_true, decide_eq_true_eq] at h
  omega
theorem near_len {l : List SlotR} (h : nearL l = true) : l.length ≤ 10 := by
  unfold nearL at h
  simp only [Bool.and_eq_true, decide_eq_true_eq] at h
  omega
end Go.Proofs.Ytdcncalcncomoaa
