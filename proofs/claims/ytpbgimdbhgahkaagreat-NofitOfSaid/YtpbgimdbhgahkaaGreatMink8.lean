/- Layer 15: the directions of a ring. -/
import Derived.Test.YtpbgimdbhgahkaaGreatMink4
import Derived.Test.YtpbgimdbhgahkaaGreatMink7
import Derived.Deep.AppendLies
namespace Go.Proofs.YtpbgimdbhgahkaaGreat
open Go.RowKit Go.Sort
set_option linter.unusedVariables false
set_option linter.unusedSimpArgs false
attribute [local go_sem ↓] Go.wp_at_zero Go.wp_at_succ

theorem isRow_atV (W : World) (g : Nat) (x y : Int) (hg : W.heap.size = g) : IsVecs (W.alloc (.cells #[.int .i64 x, .int .i64 y] 24)) (some ⟨g, 0, none⟩) 1 [(x, y)] := by
  subst hg; exact ⟨(by intro h; cases h), .inr ⟨_, 0, rfl, row_one W x y⟩⟩
/-- The first k edges of a ring. -/
def dirsK (r : List Pt) (k : Nat) : List Pt := (List.range k).map (edgeV r)
theorem dirsK_len (r : List Pt) (k : Nat) : (dirsK r k).length = k := by unfold dirsK; simp
theorem dirsK_succ (r : List Pt) (k : Nat) : dirsK r (k + 1) = dirsK r k ++ [edgeV r k] := by unfold dirsK; rw [List.range_succ, List.map_append]; rfl
set_option maxRecDepth 100000 in
set_option maxHeartbeats 8000000 in
theorem directions_any (A : Option Addr) (c : Nat) (r : List (Int × Int)) (w : World) (h : IsVecs w A c r) (hlen : r.length ≤ 100000) (hn : ∀ p ∈ r, near 8000 p) :
    Calls Tryz.prog 60 #[.slice A r.length c] w fun e w' => ∃ A' c', e = .returned (.slice A' r.length c') ∧ OwnVecs w.heap.size w' A' c' (dirsK r r.length) ∧ SinceOf w w' := by
  have H := Lib.hid (And.intro h hn)
  clear h hn
  obtain ⟨i0, hi, hz0, hz1, hz2⟩ := info_parts infoVec
  have HI := Lib.hid (And.intro hi (And.intro hz0 (And.intro hz1 hz2)))
  clear hi hz0 hz1 hz2
  have NX := fun (j : Nat) (hj : j < r.length) W (hW : SinceOf w W) => next_any A c r j W (H.out.1.of hW) (by omega) hlen (by omega)
  go_enter Tryz.func60, Tryz.ntmps60
  go_wp2_with fail
  go_loopg [3, 8] r.length (fun gas s3 s8 wr => ∃ (k : Nat) (A3 : Option Addr) (c3 : Nat), k ≤ r.length ∧ r.length - k ≤ gas ∧ s3 = .slice A3 k c3 ∧ s8 = .int .i64 k ∧ OwnVecs w.heap.size wr A3 c3 (dirsK r k) ∧ SinceOf w wr)
  case atStart => exact ⟨0, none, 0, by omega, by omega, rfl, rfl, Owns.nil _ _ _ _ _, by (repeat (first | (with_reducible exact SinceOf.refl _) | (with_reducible assumption) | (with_reducible refine SinceOf.alloc ?_ _) | (with_reducible refine SinceOf.drew ?_) | (with_reducible refine SinceOf.drewN ?_ _) | (with_reducible refine SinceOf.later ?_ _) | (with_reducible refine SinceOf.further ?_ _) | (with_reducible refine SinceOf.setCell ?_ (by first | exact Nat.le_refl _ | (simp; done) | omega | (simp; omega)) _)))⟩
  case round =>
    obtain ⟨k, A3, c3, hk, hgas, rfl, rfl, ho, ⟨u, rfl⟩⟩ := hrel
    by_cases hlt : k < r.length
    · have hr0 := H.out.1.of (w' := u.wd) (by (repeat (first | (with_reducible exact SinceOf.refl _) | (with_reducible assumption) | (with_reducible refine SinceOf.alloc ?_ _) | (with_reducible refine SinceOf.drew ?_) | (with_reducible refine SinceOf.drewN ?_ _) | (with_reducible refine SinceOf.later ?_ _) | (with_reducible refine SinceOf.further ?_ _) | (with_reducible refine SinceOf.setCell ?_ (by first | exact Nat.le_refl _ | (simp; done) | omega | (simp; omega)) _))))
      obtain ⟨g, off, rfl, hr⟩ := hr0.at_ (by omega)
      have hO := hr.there
      have a0 := hr.v0 k hlt
      have a1 := hr.v1 k hlt
      have ea : at0 r k = r[k] := at0_eq hlt
      have N1 := fun W (hW : SinceOf u.wd W) => NX k hlt W (SinceOf.trans ⟨u, rfl⟩ hW)
      have n1 := H.out.2 _ (List.getElem_mem hlt)
      have n2 := H.out.2 _ (rv_mem (r := r) (i := k + 1) (by omega))
      obtain ⟨e1, e2, e3, e4⟩ := edge_exact n1 n2
      have hE : edgeV r k = subP (rv r (k + 1)) r[k] := by unfold edgeV; rw [rv_lt hlt, ea]
      rw [← hE] at e1 e2 e3 e4
      have S1 := sub_any (rv r (k + 1)).1 (rv r (k + 1)).2 r[k].1 r[k].2
      rw [e1, e2] at S1
      have hl0 : (dirsK r k).length = k := dirsK_len r k
      have hds := dirsK_succ r k
      obtain ⟨L, hL⟩ : ∃ L, L = dirsK r k := ⟨_, rfl⟩
      rw [← hL] at ho hl0 hds
      have HP := Lib.hid (And.intro ho (And.intro hl0 hds))
      clear ho hl0 hds hL hr hr0 ea e1 e2 e3 e4 n1 n2 hE NX
      generalize edgeV r k = E at *
      obtain ⟨ex, ey⟩ := E
      generalize rv r (k + 1) = nx at *
      obtain ⟨nx, ny⟩ := nx
      generalize r[k] = q at *
      obtain ⟨qx, qy⟩ := q
      simp only at S1 N1 a0 a1
      go_wp2_with fail
      go_region_law
        (first
          | (go_simp; go_at_call 52; refine (N1 _ (by (repeat (first | (with_reducible exact SinceOf.refl _) | (with_reducible assumption) | (with_reducible refine SinceOf.alloc ?_ _) | (with_reducible refine SinceOf.drew ?_) | (with_reducible refine SinceOf.drewN ?_ _) | (with_reducible refine SinceOf.later ?_ _) | (with_reducible refine SinceOf.further ?_ _) | (with_reducible refine SinceOf.setCell ?_ (by first | exact Nat.le_refl _ | (simp; done) | omega | (simp; omega)) _))))).calls.mono ?_; rintro e _ ⟨rfl, z1, rfl⟩; (try dsimp only))
          | (go_simp; go_at_call 53; refine (S1 _).calls.mono ?_; rintro e _ ⟨rfl, z2, rfl⟩; (try dsimp only))
          | (refine step_append_row (by rfl) (.tmp 13) (.tmp 19) 40 (by rfl) encV_len (by omega) encV_one i0 _ 16 Tryz.underlying40 HI.out.1 HI.out.2.1 HI.out.2.2.1 HI.out.2.2.2 rfl (l := L) (A := A3) (c := c3) (base := w.heap.size) (by rw [HP.out.2.1]; rfl) (HP.out.1.of (by (repeat (first | (with_reducible exact SinceOf.refl _) | (with_reducible assumption) | (with_reducible refine SinceOf.alloc ?_ _) | (with_reducible refine SinceOf.drew ?_) | (with_reducible refine SinceOf.drewN ?_ _) | (with_reducible refine SinceOf.later ?_ _) | (with_reducible refine SinceOf.further ?_ _) | (with_reducible refine SinceOf.setCell ?_ (by first | exact Nat.le_refl _ | (simp; done) | omega | (simp; omega)) _))))) (m := [(ex, ey)]) (by rfl) (isRow_atV _ _ _ _ (by first | rfl | simp)) (by rw [HP.out.2.1]; unfold maxLen; simp; omega) (by rw [HP.out.2.1]; simp; omega) (by have := z1.size; have := z2.size; have := u.size; simp at *; omega) ?_; intro A4 c4 w4 ho4 hgr4 hb4))
      all_goals
        go_wp2_with fail
        go_roundg (r.length - (k + 1))
        case measure => omega
        case rel =>
          refine ⟨k + 1, A4, c4, hlt, Nat.le_refl _, (by rw [HP.out.2.1]; try rfl), by go_num, ?_, SinceOf.grown (by (repeat (first | (with_reducible exact SinceOf.refl _) | (with_reducible assumption) | (with_reducible refine SinceOf.alloc ?_ _) | (with_reducible refine SinceOf.drew ?_) | (with_reducible refine SinceOf.drewN ?_ _) | (with_reducible refine SinceOf.later ?_ _) | (with_reducible refine SinceOf.further ?_ _) | (with_reducible refine SinceOf.setCell ?_ (by first | exact Nat.le_refl _ | (simp; done) | omega | (simp; omega)) _)))) hgr4 (fun q hq => (HP.out.1.below q hq).1)⟩
          rw [HP.out.2.2]
          exact ho4
    · obtain rfl : k = r.length := by omega
      have HP := Lib.hid ho
      clear ho
      go_wp2_with fail
      go_returns
      exact ⟨_, _, rfl, HP.out, by (repeat (first | (with_reducible exact SinceOf.refl _) | (with_reducible assumption) | (with_reducible refine SinceOf.alloc ?_ _) | (with_reducible refine SinceOf.drew ?_) | (with_reducible refine SinceOf.drewN ?_ _) | (with_reducible refine SinceOf.later ?_ _) | (with_reducible refine SinceOf.further ?_ _) | (with_reducible refine SinceOf.setCell ?_ (by first | exact Nat.le_refl _ | (simp; done) | omega | (simp; omega)) _)))⟩
end Go.Proofs.YtpbgimdbhgahkaaGreat
