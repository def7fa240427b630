/- The reference's Close. -/
import Derived.Test.YtbceogoeoojdbaaCal9
namespace Go.Proofs.Ytbceogoeoojdbaa
open Go.RowKit Go.Sort
set_option linter.unusedVariables false
attribute [local go_sem ↓] Go.wp_at_zero Go.wp_at_succ

theorem ascI_take {most last : Int} {D : List (Int × Int)} {k : Nat} (h : ascI most last D = true) (hk : k < D.length) : ascI most last (D.take k ++ [D[k]]) = true := by
  rw [← List.take_succ_eq_append_getElem hk]
  have : D = D.take (k + 1) ++ D.drop (k + 1) := (List.take_append_drop _ _).symm
  rw [this] at h
  exact (ascI_append.1 h).1
/-- What the reference's loop knows behind k closings. -/
inductive Close3 (a b : Int) (D : List (Int × Int)) (out : List (Int × Int)) (a' b' : Int) : Bool → Prop where
  | none : a = b → out = D → Close3 a b D out a' b' true
  | before : a < b → Placing 1000000 a b D out a' b' → Close3 a b D out a' b' false
  | behind : a < b → a' < b' → Placed 1000000 a b D out b' → Close3 a b D out a' b' true

theorem IsVec.of {w w' : World} {g : Nat} {x y : Int} (h : IsVec w g x y) (hs : SinceOf w w') : IsVec w' g x y := by
  obtain ⟨z, rfl⟩ := hs; exact h.since z
theorem IsVec.grown {w w' : World} {g : Nat} {x y : Int} {row : Option Nat} (h : IsVec w g x y) (hg : w.grownBy w' row) (hne : some g ≠ row) : IsVec w' g x y := by
  obtain ⟨c0, c1, f0, f1, ⟨⟨ho⟩⟩⟩ := h
  exact ⟨hg.cell c0 hne, hg.cell c1 hne, by rw [hg.frozen_far _ ho hne]; exact f0, by rw [hg.frozen_far _ ho hne]; exact f1, ⟨⟨Nat.lt_of_lt_of_le ho hg.size⟩⟩⟩

section
variable {P : Int} {A B : Option Addr} {n c m d : Nat} {S D : List (Int × Int)} {w : World}
set_option maxRecDepth 100000 in
set_option maxHeartbeats 4000000 in
theorem refClose_any (a b : Int) (h : IsCal w P A n c B m d S D) : Calls Try.prog 36 #[CalV P A n c B m d, .int .i64 a, .int .i64 b] w (CloseOut w P S D a b) := by
  have K := fun W hW => refCheck_any (w := W) a b 0 (h.of hW)
  rw [show timeB 0 = true from rfl, Bool.and_true] at K
  by_cases hg : (validB P S D && checkB a b) = true
  · rw [Bool.and_eq_true] at hg
    obtain ⟨hv, hc⟩ := hg
    rw [hv, hc] at K
    have g := validB_iff.1 hv
    obtain ⟨h0, h1, h2⟩ := checkB_iff.1 hc
    obtain ⟨rfl, rfl, hS, hD, hn, hm⟩ := h
    have hD20 := g.d20
    have HG := Lib.hid (And.intro g (And.intro hc (And.intro hS hD)))
    obtain ⟨i0, hi, hz0, hz1, hz2⟩ := info_parts infoIv
    have HI := Lib.hid (And.intro hi (And.intro hz0 (And.intro hz1 hz2)))
    clear hv hc g hS hD hi hz0 hz1 hz2
    have hab : (a = b) ∨ (a < b) := by omega
    have hab2 : ∃ q, (a == b) = q ∧ ((q = true ∧ a = b) ∨ (q = false ∧ a < b)) := by
      rcases hab with h | h
      · exact ⟨true, by simpa using h, .inl ⟨rfl, h⟩⟩
      · exact ⟨false, by rw [beq_eq_false_iff_ne]; omega, .inr ⟨rfl, h⟩⟩
    obtain ⟨q, hq, hq2⟩ := hab2
    clear hab
    go_enter Try.func36, Try.ntmps36
    go_wp2_with fail
    refine (K _ (by (repeat (first | (with_reducible exact SinceOf.refl _) | (with_reducible assumption) | (with_reducible refine SinceOf.alloc ?_ _) | (with_reducible refine SinceOf.drew ?_) | (with_reducible refine SinceOf.drewN ?_ _) | (with_reducible refine SinceOf.later ?_ _) | (with_reducible refine SinceOf.further ?_ _) | (with_reducible refine SinceOf.setCell ?_ (by first | exact Nat.le_refl _ | (simp; done) | omega | (simp; omega)) _))))).calls.mono ?_
    rintro e _ ⟨rfl, x1, rfl⟩
    simp only [errI, if_true]
    clear K
    go_wp2_with fail
    go_loopg [9, 11, 12] D.length (fun gas s9 s11 s12 wr => ∃ (k : Nat) (A2 : Option Addr) (c2 : Nat) (out : List (Int × Int)) (p : Bool) (a' b' : Int), k ≤ D.length ∧ D.length - k ≤ gas ∧ s9 = .slice A2 out.length c2 ∧ s11 = .bool p ∧ s12 = .int .i64 k ∧ out.length ≤ 2 * k ∧
      OwnIvs (x1.wd.heap.size + 1) wr A2 c2 out ∧ SinceOf x1.wd wr ∧ IsVec wr x1.wd.heap.size a' b' ∧ Close3 a b (D.take k) out a' b' p)
    case atStart =>
      refine ⟨0, none, 0, [], q, a, b, by omega, by omega, rfl, rfl, rfl, by simp, Owns.nil _ _ _ _ _, by (repeat (first | (with_reducible exact SinceOf.refl _) | (with_reducible assumption) | (with_reducible refine SinceOf.alloc ?_ _) | (with_reducible refine SinceOf.drew ?_) | (with_reducible refine SinceOf.drewN ?_ _) | (with_reducible refine SinceOf.later ?_ _) | (with_reducible refine SinceOf.further ?_ _) | (with_reducible refine SinceOf.setCell ?_ (by first | exact Nat.le_refl _ | (simp; done) | omega | (simp; omega)) _))), IsVec.new _ _ _ _, ?_⟩
      rw [List.take_zero]
      rcases hq2 with ⟨rfl, h⟩ | ⟨rfl, h⟩
      · exact .none h rfl
      · exact .before h (Placing.start h0 h h2)
    case round =>
      obtain ⟨k, A2, c2, out, p, a', b', hk, hgas, rfl, rfl, rfl, hol, hown, ⟨z, rfl⟩, hnow, hst⟩ := hrel
      by_cases hlt : k < D.length
      · have hasc := ascI_take HG.out.1.d hlt
        have hr := (HG.out.2.2.2.of (SinceOf.further (((SinceOf.refl w).alloc _).alloc _ |>.later x1) z)).at_ (by omega)
        obtain ⟨g, off, rfl, hr⟩ := hr
        have hO := hr.there
        have k0 := hr.v0 k hlt
        have k1 := hr.v1 k hlt
        have htk := List.take_succ_eq_append_getElem hlt
        obtain ⟨⟨d0, d1⟩, hd⟩ : ∃ q, q = D[k] := ⟨_, rfl⟩
        rw [← hd] at k0 k1 hasc htk
        simp only at k0 k1
        have hzs := z.size
        obtain ⟨n0, n1, nf0, nf1, nO⟩ := id hnow
        have HS := Lib.hid (And.intro hasc (And.intro htk (And.intro hown hnow)))
        clear hasc hr hd htk hown hnow
        rcases hst with ⟨hab, hout⟩ | ⟨hab, hpl⟩ | ⟨hab, hab', hpd⟩
        · obtain rfl : q = true := by rcases hq2 with ⟨h, -⟩ | ⟨-, h⟩; exact h; omega
          have HA := Lib.hid (And.intro hab hout)
          clear hab hout hq2
          go_wp2_with (at_builtin; refine wpList_append_row rfl (.tmp 50) (.tmp 52) 56 rfl encV_len (by omega) encV_one i0 _ 16 Try.underlying56 HI.out.1 HI.out.2.1 HI.out.2.2.1 HI.out.2.2.2 rfl (l := out) (A := A2) (c := c2) (base := x1.wd.heap.size + 1) rfl ((HS.out.2.2.1.alloc _).alloc _) (m := [(d0, d1)]) rfl (isRow_at _ _ d0 d1 _ (by first | rfl | simp)) (by unfold maxLen; simp; omega) (by simp; omega) (by simp only [World.size_alloc]; omega) ?_; intro A3 c3 w3 hown3 hgr3 hbl3)
          go_roundg (D.length - (k + 1))
          case measure => omega
          case rel =>
            have hne : some x1.wd.heap.size ≠ blockOf A2 := fun e => by have := (HS.out.2.2.1.below _ e.symm).1; omega
            refine ⟨k + 1, A3, c3, out ++ [(d0, d1)], true, a', b', hlt, Nat.le_refl _, by rw [List.length_append]; rfl, rfl, by go_num, by rw [List.length_append, List.length_singleton]; omega, hown3, ?_, ((HS.out.2.2.2.of (SinceOf.refl _ |>.alloc _ |>.alloc _)).grown hgr3 hne), ?_⟩
            · exact SinceOf.grown (SinceOf.alloc (SinceOf.alloc ⟨z, rfl⟩ _) _) hgr3 (fun b hb => by have := (HS.out.2.2.1.below b hb).1; omega)
            · rw [HS.out.2.1]; exact .none HA.out.1 (by rw [HA.out.2])
        · obtain rfl : q = false := by rcases hq2 with ⟨-, h⟩ | ⟨h, -⟩; (exfalso; omega); exact h
          have HA := Lib.hid hpl
          have hnw := hpl.now
          clear hpl hq2
          by_cases hx1 : d1 < a'
          · go_wp2_with (at_builtin; refine wpList_append_row rfl (.tmp 50) (.tmp 52) 56 rfl encV_len (by omega) encV_one i0 _ 16 Try.underlying56 HI.out.1 HI.out.2.1 HI.out.2.2.1 HI.out.2.2.2 rfl (l := out) (A := A2) (c := c2) (base := x1.wd.heap.size + 1) rfl ((HS.out.2.2.1.alloc _).alloc _) (m := [(d0, d1)]) rfl (isRow_at _ _ d0 d1 _ (by first | rfl | simp)) (by unfold maxLen; simp; omega) (by simp; omega) (by simp only [World.size_alloc]; omega) ?_; intro A3 c3 w3 hown3 hgr3 hbl3)
            go_roundg (D.length - (k + 1))
            case measure => omega
            case rel =>
              have hne : some x1.wd.heap.size ≠ blockOf A2 := fun e => by have := (HS.out.2.2.1.below _ e.symm).1; omega
              refine ⟨k + 1, A3, c3, out ++ [(d0, d1)], false, a', b', hlt, Nat.le_refl _, by rw [List.length_append]; rfl, rfl, by go_num, by rw [List.length_append, List.length_singleton]; omega, hown3, ?_, ((HS.out.2.2.2.of (SinceOf.refl _ |>.alloc _ |>.alloc _)).grown hgr3 hne), ?_⟩
              · exact SinceOf.grown (SinceOf.alloc (SinceOf.alloc ⟨z, rfl⟩ _) _) hgr3 (fun b hb => by have := (HS.out.2.2.1.below b hb).1; omega)
              · rw [HS.out.2.1]; exact .before hab (HA.out.ahead HS.out.1 hx1)
          · by_cases hx2 : b' < d0
            · have hx1b : decide (d1 < a') = false := decide_eq_false hx1
              go_wp2_with (at_builtin; first | (refine wpList_append_row rfl (.tmp 61) (.tmp 63) 56 rfl encV_len (by omega) encV_one i0 _ 16 Try.underlying56 HI.out.1 HI.out.2.1 HI.out.2.2.1 HI.out.2.2.2 rfl (l := out) (A := A2) (c := c2) (base := x1.wd.heap.size + 1) rfl ((HS.out.2.2.1.alloc _).alloc _) (m := [(a', b')]) rfl (isRow_at _ _ a' b' _ (by first | rfl | simp)) (by unfold maxLen; simp; omega) (by simp; omega) (by simp only [World.size_alloc]; omega) ?_; intro A3 c3 w3 hown3 hgr3 hbl3; have hnx : some z.wd.heap.size ≠ blockOf A2 := (fun e => by have := (HS.out.2.2.1.below _ e.symm).2; omega); have f0 : w3.cell? ⟨z.wd.heap.size, 0, none⟩ = some (.int .i64 d0) := hgr3.cell (by simp [go_sem]) hnx; have f1 : w3.cell? ⟨z.wd.heap.size, 1, none⟩ = some (.int .i64 d1) := hgr3.cell (by simp [go_sem]) hnx) | (refine wpList_append_row rfl (.tmp 65) (.tmp 67) 56 rfl encV_len (by omega) encV_one i0 _ 16 Try.underlying56 HI.out.1 HI.out.2.1 HI.out.2.2.1 HI.out.2.2.2 rfl (l := out ++ [(a', b')]) (A := A3) (c := c3) (base := x1.wd.heap.size + 1) (by rw [List.length_append]; rfl) (hown3.alloc _) (m := [(d0, d1)]) rfl (isRow_at _ _ d0 d1 _ (by first | rfl | simp)) (by unfold maxLen; simp; omega) (by simp; omega) (by have := hgr3.size; simp at this ⊢; omega) ?_; intro A4 c4 w4 hown4 hgr4 hbl4))
              go_roundg (D.length - (k + 1))
              case measure => omega
              case rel =>
                have hne : some x1.wd.heap.size ≠ blockOf A2 := fun e => by have := (HS.out.2.2.1.below _ e.symm).1; omega
                have hne3 : some x1.wd.heap.size ≠ blockOf A3 := fun e => by have := (hown3.below _ e.symm).1; omega
                have S3 : SinceOf x1.wd w3 := SinceOf.grown (SinceOf.alloc (SinceOf.alloc ⟨z, rfl⟩ _) _) hgr3 (fun b hb => by have := (HS.out.2.2.1.below b hb).1; omega)
                refine ⟨k + 1, A4, c4, out ++ [(a', b')] ++ [(d0, d1)], true, a', b', hlt, Nat.le_refl _, by rw [List.length_append, List.length_append]; rfl, rfl, by go_num, by rw [List.length_append, List.length_append, List.length_singleton, List.length_singleton]; omega, hown4, ?_, ?_, ?_⟩
                · exact SinceOf.grown (S3.alloc _) hgr4 (fun b hb => by have := (hown3.below b hb).1; omega)
                · exact (((HS.out.2.2.2.of (SinceOf.refl _ |>.alloc _ |>.alloc _)).grown hgr3 hne).of (SinceOf.refl _ |>.alloc _)).grown hgr4 hne3
                · rw [HS.out.2.1]; exact .behind hab hnw (HA.out.place HS.out.1 hx2)
            · go_wp2_with fail
              go_roundg (D.length - (k + 1))
              case measure => omega
              case rel =>
                have hne : blockOf A2 ≠ some x1.wd.heap.size := fun e => by have := (HS.out.2.2.1.below _ e).1; omega
                have hv := (HS.out.2.2.2.of (SinceOf.refl _ |>.alloc (.cells #[.int .i64 d0, .int .i64 d1] 55))).set (imin d0 a') (imax d1 b')
                refine ⟨k + 1, A2, c2, out, false, imin d0 a', imax d1 b', hlt, Nat.le_refl _, rfl, rfl, by go_num, by omega, ?_, ?_, hv, ?_⟩
                · exact ((HS.out.2.2.1.alloc _).kept (grownBy_setCell (p := ⟨x1.wd.heap.size, 0, none⟩) rfl _) (.inr hne)).kept (grownBy_setCell (p := ⟨x1.wd.heap.size, 1, none⟩) rfl _) (.inr hne)
                · exact SinceOf.setCell (SinceOf.setCell (SinceOf.alloc ⟨z, rfl⟩ _) (Nat.le_refl _) _) (Nat.le_refl _) _
                · rw [HS.out.2.1, imin_eq, imax_eq]; exact .before hab (HA.out.join HS.out.1 (by simpa using hx1) (by simpa using hx2))
        · obtain rfl : q = false := by rcases hq2 with ⟨-, h⟩ | ⟨h, -⟩; (exfalso; omega); exact h
          obtain ⟨hx2, hpd2⟩ := hpd.next HS.out.1
          have hx1 : ¬ d1 < a' := by have := (ascI_snoc.1 HS.out.1).2.2.1; simp only at this; omega
          have HA := Lib.hid hpd2
          clear hpd2 hpd hq2
          go_wp2_with (at_builtin; refine wpList_append_row rfl (.tmp 65) (.tmp 67) 56 rfl encV_len (by omega) encV_one i0 _ 16 Try.underlying56 HI.out.1 HI.out.2.1 HI.out.2.2.1 HI.out.2.2.2 rfl (l := out) (A := A2) (c := c2) (base := x1.wd.heap.size + 1) rfl ((HS.out.2.2.1.alloc _).alloc _) (m := [(d0, d1)]) rfl (isRow_at _ _ d0 d1 _ (by first | rfl | simp)) (by unfold maxLen; simp; omega) (by simp; omega) (by simp only [World.size_alloc]; omega) ?_; intro A3 c3 w3 hown3 hgr3 hbl3)
          go_roundg (D.length - (k + 1))
          case measure => omega
          case rel =>
            have hne : some x1.wd.heap.size ≠ blockOf A2 := fun e => by have := (HS.out.2.2.1.below _ e.symm).1; omega
            refine ⟨k + 1, A3, c3, out ++ [(d0, d1)], true, a', b', hlt, Nat.le_refl _, by rw [List.length_append]; rfl, rfl, by go_num, by rw [List.length_append, List.length_singleton]; omega, hown3, ?_, ((HS.out.2.2.2.of (SinceOf.refl _ |>.alloc _ |>.alloc _)).grown hgr3 hne), ?_⟩
            · exact SinceOf.grown (SinceOf.alloc (SinceOf.alloc ⟨z, rfl⟩ _) _) hgr3 (fun b hb => by have := (HS.out.2.2.1.below b hb).1; omega)
            · rw [HS.out.2.1]; exact .behind hab hab' HA.out
      · have hkl : k = D.length := by omega
        rw [hkl, List.take_length] at hst
        have HW := Lib.hid hnow
        rcases hst with ⟨hab, hout⟩ | ⟨hab, hpl⟩ | ⟨hab, hab', hpd⟩
        · have HR := Lib.hid (And.intro hown (And.intro (show ascI 1000000 (-1) out = true by rw [hout]; exact HG.out.1.d) (show ∀ t, inI out t = (inI D t || decide (a ≤ t ∧ t < b)) from fun t => by rw [hout, show decide (a ≤ t ∧ t < b) = false from by simp; omega, Bool.or_false])))
          clear hab hout hown hkl hnow hq hq2 HW
          by_cases hR : out.length ≤ 20
          · have HR2 := Lib.hid (show out.length ≤ 20 by exact hR)
            go_wp2_with fail
            go_region_held3 (fun w' => w'.cell? ⟨w.heap.size, 0, none⟩ = some (.int .i64 P) ∧ w'.cell? ⟨w.heap.size, 1, none⟩ = some (.slice A S.length c)) ((simp [go_sem, *]))
              ((refine step_append_row (by rfl) (.tmp 92) (.tmp 94) 56 (by rfl) encV_len (by omega) encV_one i0 _ 16 Try.underlying56 HI.out.1 HI.out.2.1 HI.out.2.2.1 HI.out.2.2.2 rfl (l := []) (A := some ⟨z.wd.heap.size, 0, none⟩) (c := 0) (base := z.wd.heap.size) (by rfl) (World.ownsRow_lit _ #[] 0 (Nat.le_refl _) (Nat.zero_le _) rfl) (m := S) (B := A) (d := c) (by rfl) (HG.out.2.2.1.of (by (repeat (first | (with_reducible exact SinceOf.refl _) | (with_reducible assumption) | (with_reducible refine SinceOf.alloc ?_ _) | (with_reducible refine SinceOf.drew ?_) | (with_reducible refine SinceOf.drewN ?_ _) | (with_reducible refine SinceOf.later ?_ _) | (with_reducible refine SinceOf.further ?_ _) | (with_reducible refine SinceOf.setCell ?_ (by first | exact Nat.le_refl _ | (simp; done) | omega | (simp; omega)) _))))) (by have := HG.out.1.s20; unfold maxLen; simp; omega) (by have := HG.out.1.s20; simp; omega) (by simp) ?_; intro A1 c1 w4 ho hgr4 hb4; obtain ⟨y5, rfl⟩ : SinceOf z.wd w4 := SinceOf.grown (by (repeat (first | (with_reducible exact SinceOf.refl _) | (with_reducible assumption) | (with_reducible refine SinceOf.alloc ?_ _) | (with_reducible refine SinceOf.drew ?_) | (with_reducible refine SinceOf.drewN ?_ _) | (with_reducible refine SinceOf.later ?_ _) | (with_reducible refine SinceOf.further ?_ _) | (with_reducible refine SinceOf.setCell ?_ (by first | exact Nat.le_refl _ | (simp; done) | omega | (simp; omega)) _)))) hgr4 (by intro k hk; simp [blockOf] at hk; omega)))
            all_goals
              go_wp2_with fail
              go_returns
              have e1 := x1.size
              have e2 := z.size
              simp at e1
              have b1 : ∀ b, blockOf A1 = some b → b ≠ w.heap.size + 1 := fun b hb => by have := (ho.below b hb).1; omega
              have b2 : ∀ b, blockOf A2 = some b → b ≠ w.heap.size + 1 := fun b hb => by have := (HR.out.1.below b hb).1; omega
              have r1 : IsIvs y5.wd A1 c1 S := ho.isRow encV_len
              have r2 := (HR.out.1.isRow encV_len).since y5
              refine ⟨by (repeat (first | (with_reducible exact SinceOf.refl _) | (with_reducible assumption) | (with_reducible refine SinceOf.alloc ?_ _) | (with_reducible refine SinceOf.drew ?_) | (with_reducible refine SinceOf.drewN ?_ _) | (with_reducible refine SinceOf.later ?_ _) | (with_reducible refine SinceOf.further ?_ _) | (with_reducible refine SinceOf.setCell ?_ (by first | exact Nat.le_refl _ | (simp; done) | omega | (simp; omega)) _))), 0, P, A1, S.length, c1, A2, out.length, c2, S, out, by simp, ⟨rfl, rfl, ((r1.setOther _ _ _ b1).setOther _ _ _ b1).setOther _ _ _ b1, ((r2.setOther _ _ _ b2).setOther _ _ _ b2).setOther _ _ _ b2, hn, by have := HR2.out; omega⟩, .inr ⟨HG.out.1, HG.out.2.1, out, HR.out.2.1, HR.out.2.2, .inl ⟨HR2.out, rfl, rfl, rfl, rfl⟩⟩, (fun b hb => by have := (ho.below b hb).1; omega), (fun b hb => by have := (HR.out.1.below b hb).1; omega)⟩
          · have HR2 := Lib.hid (show 20 < out.length by omega)
            go_wp2_with fail
            go_returns
            refine ⟨by (repeat (first | (with_reducible exact SinceOf.refl _) | (with_reducible assumption) | (with_reducible refine SinceOf.alloc ?_ _) | (with_reducible refine SinceOf.drew ?_) | (with_reducible refine SinceOf.drewN ?_ _) | (with_reducible refine SinceOf.later ?_ _) | (with_reducible refine SinceOf.further ?_ _) | (with_reducible refine SinceOf.setCell ?_ (by first | exact Nat.le_refl _ | (simp; done) | omega | (simp; omega)) _))), 9, 0, none, 0, 0, none, 0, 0, [], [], rfl, IsCal.none _, .inr ⟨HG.out.1, HG.out.2.1, out, HR.out.2.1, HR.out.2.2, .inr ⟨HR2.out, rfl, rfl, rfl, rfl⟩⟩, (by intro b hb; cases hb), (by intro b hb; cases hb)⟩
        · have HR := Lib.hid (And.intro hown hpl.done)
          obtain ⟨n0, n1, nf0, nf1, nO⟩ := id HW.out
          clear hown hkl hnow hq hq2 hpl
          by_cases hR : out.length + 1 ≤ 20
          · have HR2 := Lib.hid (show (out ++ [(a', b')]).length ≤ 20 by rw [List.length_append, List.length_singleton]; exact hR)
            go_wp2_with (at_builtin; refine wpList_append_row rfl (.tmp 82) (.tmp 84) 56 rfl encV_len (by omega) encV_one i0 _ 16 Try.underlying56 HI.out.1 HI.out.2.1 HI.out.2.2.1 HI.out.2.2.2 rfl (l := out) (A := A2) (c := c2) (base := x1.wd.heap.size + 1) rfl (HR.out.1.alloc _) (m := [(a', b')]) rfl (isRow_at _ _ a' b' _ (by first | rfl | simp)) (by unfold maxLen; simp; omega) (by simp; omega) (by have := z.size; have := nO.elim fun q => q.lt; simp only [World.size_alloc]; omega) ?_; intro A3 c3 w3 hown3 hgr3 hbl3; obtain ⟨y3, rfl⟩ : SinceOf x1.wd w3 := SinceOf.grown (SinceOf.alloc ⟨z, rfl⟩ _) hgr3 (fun b hb => by have := (HR.out.1.below b hb).1; omega); have HR := Lib.hid (And.intro hown3 HR.out.2))
            go_region_held3 (fun w' => w'.cell? ⟨w.heap.size, 0, none⟩ = some (.int .i64 P) ∧ w'.cell? ⟨w.heap.size, 1, none⟩ = some (.slice A S.length c)) ((simp [go_sem, *]))
              ((refine step_append_row (by rfl) (.tmp 92) (.tmp 94) 56 (by rfl) encV_len (by omega) encV_one i0 _ 16 Try.underlying56 HI.out.1 HI.out.2.1 HI.out.2.2.1 HI.out.2.2.2 rfl (l := []) (A := some ⟨y3.wd.heap.size, 0, none⟩) (c := 0) (base := y3.wd.heap.size) (by rfl) (World.ownsRow_lit _ #[] 0 (Nat.le_refl _) (Nat.zero_le _) rfl) (m := S) (B := A) (d := c) (by rfl) (HG.out.2.2.1.of (by (repeat (first | (with_reducible exact SinceOf.refl _) | (with_reducible assumption) | (with_reducible refine SinceOf.alloc ?_ _) | (with_reducible refine SinceOf.drew ?_) | (with_reducible refine SinceOf.drewN ?_ _) | (with_reducible refine SinceOf.later ?_ _) | (with_reducible refine SinceOf.further ?_ _) | (with_reducible refine SinceOf.setCell ?_ (by first | exact Nat.le_refl _ | (simp; done) | omega | (simp; omega)) _))))) (by have := HG.out.1.s20; unfold maxLen; simp; omega) (by have := HG.out.1.s20; simp; omega) (by simp) ?_; intro A1 c1 w4 ho hgr4 hb4; obtain ⟨y5, rfl⟩ : SinceOf y3.wd w4 := SinceOf.grown (by (repeat (first | (with_reducible exact SinceOf.refl _) | (with_reducible assumption) | (with_reducible refine SinceOf.alloc ?_ _) | (with_reducible refine SinceOf.drew ?_) | (with_reducible refine SinceOf.drewN ?_ _) | (with_reducible refine SinceOf.later ?_ _) | (with_reducible refine SinceOf.further ?_ _) | (with_reducible refine SinceOf.setCell ?_ (by first | exact Nat.le_refl _ | (simp; done) | omega | (simp; omega)) _)))) hgr4 (by intro k hk; simp [blockOf] at hk; omega)))
            all_goals
              go_wp2_with fail
              go_returns
              have e1 := x1.size
              have e2 := y3.size
              simp at e1
              have b1 : ∀ b, blockOf A1 = some b → b ≠ w.heap.size + 1 := fun b hb => by have := (ho.below b hb).1; omega
              have b2 : ∀ b, blockOf A3 = some b → b ≠ w.heap.size + 1 := fun b hb => by have := (HR.out.1.below b hb).1; omega
              have r1 : IsIvs y5.wd A1 c1 S := ho.isRow encV_len
              have r2 := (HR.out.1.isRow encV_len).since y5
              refine ⟨by (repeat (first | (with_reducible exact SinceOf.refl _) | (with_reducible assumption) | (with_reducible refine SinceOf.alloc ?_ _) | (with_reducible refine SinceOf.drew ?_) | (with_reducible refine SinceOf.drewN ?_ _) | (with_reducible refine SinceOf.later ?_ _) | (with_reducible refine SinceOf.further ?_ _) | (with_reducible refine SinceOf.setCell ?_ (by first | exact Nat.le_refl _ | (simp; done) | omega | (simp; omega)) _))), 0, P, A1, S.length, c1, A3, (out ++ [(a', b')]).length, c3, S, (out ++ [(a', b')]), by rw [List.length_append]; simp, ⟨rfl, rfl, ((r1.setOther _ _ _ b1).setOther _ _ _ b1).setOther _ _ _ b1, ((r2.setOther _ _ _ b2).setOther _ _ _ b2).setOther _ _ _ b2, hn, by have := HR2.out; omega⟩, .inr ⟨HG.out.1, HG.out.2.1, (out ++ [(a', b')]), HR.out.2.1, HR.out.2.2, .inl ⟨HR2.out, rfl, rfl, rfl, rfl⟩⟩, (fun b hb => by have := (ho.below b hb).1; omega), (fun b hb => by have := (HR.out.1.below b hb).1; omega)⟩
          · have HR2 := Lib.hid (show 20 < (out ++ [(a', b')]).length by rw [List.length_append, List.length_singleton]; omega)
            go_wp2_with (at_builtin; refine wpList_append_row rfl (.tmp 82) (.tmp 84) 56 rfl encV_len (by omega) encV_one i0 _ 16 Try.underlying56 HI.out.1 HI.out.2.1 HI.out.2.2.1 HI.out.2.2.2 rfl (l := out) (A := A2) (c := c2) (base := x1.wd.heap.size + 1) rfl (HR.out.1.alloc _) (m := [(a', b')]) rfl (isRow_at _ _ a' b' _ (by first | rfl | simp)) (by unfold maxLen; simp; omega) (by simp; omega) (by have := z.size; have := nO.elim fun q => q.lt; simp only [World.size_alloc]; omega) ?_; intro A3 c3 w3 hown3 hgr3 hbl3; obtain ⟨y3, rfl⟩ : SinceOf x1.wd w3 := SinceOf.grown (SinceOf.alloc ⟨z, rfl⟩ _) hgr3 (fun b hb => by have := (HR.out.1.below b hb).1; omega); have HR := Lib.hid (And.intro hown3 HR.out.2))
            go_returns
            refine ⟨by (repeat (first | (with_reducible exact SinceOf.refl _) | (with_reducible assumption) | (with_reducible refine SinceOf.alloc ?_ _) | (with_reducible refine SinceOf.drew ?_) | (with_reducible refine SinceOf.drewN ?_ _) | (with_reducible refine SinceOf.later ?_ _) | (with_reducible refine SinceOf.further ?_ _) | (with_reducible refine SinceOf.setCell ?_ (by first | exact Nat.le_refl _ | (simp; done) | omega | (simp; omega)) _))), 9, 0, none, 0, 0, none, 0, 0, [], [], rfl, IsCal.none _, .inr ⟨HG.out.1, HG.out.2.1, (out ++ [(a', b')]), HR.out.2.1, HR.out.2.2, .inr ⟨HR2.out, rfl, rfl, rfl, rfl⟩⟩, (by intro b hb; cases hb), (by intro b hb; cases hb)⟩
        · have HR := Lib.hid (And.intro hown (And.intro hpd.asc hpd.all))
          clear hown hkl hnow hq hq2 hpd HW
          by_cases hR : out.length ≤ 20
          · have HR2 := Lib.hid (show out.length ≤ 20 by exact hR)
            go_wp2_with fail
            go_region_held3 (fun w' => w'.cell? ⟨w.heap.size, 0, none⟩ = some (.int .i64 P) ∧ w'.cell? ⟨w.heap.size, 1, none⟩ = some (.slice A S.length c)) ((simp [go_sem, *]))
              ((refine step_append_row (by rfl) (.tmp 92) (.tmp 94) 56 (by rfl) encV_len (by omega) encV_one i0 _ 16 Try.underlying56 HI.out.1 HI.out.2.1 HI.out.2.2.1 HI.out.2.2.2 rfl (l := []) (A := some ⟨z.wd.heap.size, 0, none⟩) (c := 0) (base := z.wd.heap.size) (by rfl) (World.ownsRow_lit _ #[] 0 (Nat.le_refl _) (Nat.zero_le _) rfl) (m := S) (B := A) (d := c) (by rfl) (HG.out.2.2.1.of (by (repeat (first | (with_reducible exact SinceOf.refl _) | (with_reducible assumption) | (with_reducible refine SinceOf.alloc ?_ _) | (with_reducible refine SinceOf.drew ?_) | (with_reducible refine SinceOf.drewN ?_ _) | (with_reducible refine SinceOf.later ?_ _) | (with_reducible refine SinceOf.further ?_ _) | (with_reducible refine SinceOf.setCell ?_ (by first | exact Nat.le_refl _ | (simp; done) | omega | (simp; omega)) _))))) (by have := HG.out.1.s20; unfold maxLen; simp; omega) (by have := HG.out.1.s20; simp; omega) (by simp) ?_; intro A1 c1 w4 ho hgr4 hb4; obtain ⟨y5, rfl⟩ : SinceOf z.wd w4 := SinceOf.grown (by (repeat (first | (with_reducible exact SinceOf.refl _) | (with_reducible assumption) | (with_reducible refine SinceOf.alloc ?_ _) | (with_reducible refine SinceOf.drew ?_) | (with_reducible refine SinceOf.drewN ?_ _) | (with_reducible refine SinceOf.later ?_ _) | (with_reducible refine SinceOf.further ?_ _) | (with_reducible refine SinceOf.setCell ?_ (by first | exact Nat.le_refl _ | (simp; done) | omega | (simp; omega)) _)))) hgr4 (by intro k hk; simp [blockOf] at hk; omega)))
            all_goals
              go_wp2_with fail
              go_returns
              have e1 := x1.size
              have e2 := z.size
              simp at e1
              have b1 : ∀ b, blockOf A1 = some b → b ≠ w.heap.size + 1 := fun b hb => by have := (ho.below b hb).1; omega
              have b2 : ∀ b, blockOf A2 = some b → b ≠ w.heap.size + 1 := fun b hb => by have := (HR.out.1.below b hb).1; omega
              have r1 : IsIvs y5.wd A1 c1 S := ho.isRow encV_len
              have r2 := (HR.out.1.isRow encV_len).since y5
              refine ⟨by (repeat (first | (with_reducible exact SinceOf.refl _) | (with_reducible assumption) | (with_reducible refine SinceOf.alloc ?_ _) | (with_reducible refine SinceOf.drew ?_) | (with_reducible refine SinceOf.drewN ?_ _) | (with_reducible refine SinceOf.later ?_ _) | (with_reducible refine SinceOf.further ?_ _) | (with_reducible refine SinceOf.setCell ?_ (by first | exact Nat.le_refl _ | (simp; done) | omega | (simp; omega)) _))), 0, P, A1, S.length, c1, A2, out.length, c2, S, out, by simp, ⟨rfl, rfl, ((r1.setOther _ _ _ b1).setOther _ _ _ b1).setOther _ _ _ b1, ((r2.setOther _ _ _ b2).setOther _ _ _ b2).setOther _ _ _ b2, hn, by have := HR2.out; omega⟩, .inr ⟨HG.out.1, HG.out.2.1, out, HR.out.2.1, HR.out.2.2, .inl ⟨HR2.out, rfl, rfl, rfl, rfl⟩⟩, (fun b hb => by have := (ho.below b hb).1; omega), (fun b hb => by have := (HR.out.1.below b hb).1; omega)⟩
          · have HR2 := Lib.hid (show 20 < out.length by omega)
            go_wp2_with fail
            go_returns
            refine ⟨by (repeat (first | (with_reducible exact SinceOf.refl _) | (with_reducible assumption) | (with_reducible refine SinceOf.alloc ?_ _) | (with_reducible refine SinceOf.drew ?_) | (with_reducible refine SinceOf.drewN ?_ _) | (with_reducible refine SinceOf.later ?_ _) | (with_reducible refine SinceOf.further ?_ _) | (with_reducible refine SinceOf.setCell ?_ (by first | exact Nat.le_refl _ | (simp; done) | omega | (simp; omega)) _))), 9, 0, none, 0, 0, none, 0, 0, [], [], rfl, IsCal.none _, .inr ⟨HG.out.1, HG.out.2.1, out, HR.out.2.1, HR.out.2.2, .inr ⟨HR2.out, rfl, rfl, rfl, rfl⟩⟩, (by intro b hb; cases hb), (by intro b hb; cases hb)⟩

  · have hd : errI (validB P S D) (checkB a b) = 1 ∨ errI (validB P S D) (checkB a b) = 2 := by
      cases hv : validB P S D <;> cases hc : checkB a b <;> simp [hv, hc, errI] at hg ⊢
    have hg' : (validB P S D && checkB a b) = false := by simpa using hg
    have HF : ∀ w', SinceOf w w' → CloseOut w P S D a b (.returned (.tuple #[.agg #[.int .i64 0, .slice none 0 0, .slice none 0 0], .int .i64 (errI (validB P S D) (checkB a b))])) w' :=
      fun w' hw => ⟨hw, _, 0, none, 0, 0, none, 0, 0, [], [], rfl, IsCal.none _, .inl ⟨hg', rfl, rfl, rfl, rfl⟩, (by intro b hb; cases hb), (by intro b hb; cases hb)⟩
    have HF := Lib.hid HF
    clear h hg hg'
    generalize errI (validB P S D) (checkB a b) = q at *
    rcases hd with rfl | rfl
    all_goals
      go_enter Try.func36, Try.ntmps36
      go_wp2_with fail
      refine (K _ (by (repeat (first | (with_reducible exact SinceOf.refl _) | (with_reducible assumption) | (with_reducible refine SinceOf.alloc ?_ _) | (with_reducible refine SinceOf.drew ?_) | (with_reducible refine SinceOf.drewN ?_ _) | (with_reducible refine SinceOf.later ?_ _) | (with_reducible refine SinceOf.further ?_ _) | (with_reducible refine SinceOf.setCell ?_ (by first | exact Nat.le_refl _ | (simp; done) | omega | (simp; omega)) _))))).calls.mono ?_
      rintro e _ ⟨rfl, x1, rfl⟩
      go_wp2_with fail
      go_returns
      exact HF.out _ (by (repeat (first | (with_reducible exact SinceOf.refl _) | (with_reducible assumption) | (with_reducible refine SinceOf.alloc ?_ _) | (with_reducible refine SinceOf.drew ?_) | (with_reducible refine SinceOf.drewN ?_ _) | (with_reducible refine SinceOf.later ?_ _) | (with_reducible refine SinceOf.further ?_ _) | (with_reducible refine SinceOf.setCell ?_ (by first | exact Nat.le_refl _ | (simp; done) | omega | (simp; omega)) _))))
end
end Go.Proofs.Ytbceogoeoojdbaa
