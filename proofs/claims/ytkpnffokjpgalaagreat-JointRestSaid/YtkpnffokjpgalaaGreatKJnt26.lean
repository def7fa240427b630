/- Layer 46: covered of the reference. -/
import Derived.Test.YtkpnffokjpgalaaGreatKJnt24
import Derived.Test.YtkpnffokjpgalaaGreatKJntQ1
namespace Go.Proofs.YtkpnffokjpgalaaGreat
set_option linter.unusedVariables false
set_option linter.unusedSimpArgs false
open Go.RowKit Go.Sort
attribute [local go_sem ↓] Go.wp_at_zero Go.wp_at_succ

theorem any_dropG {α : Type} (p : α → Bool) {l : List α} {k : Nat} (h : k < l.length) : (l.drop k).any p = (p l[k] || (l.drop (k + 1)).any p) := by
  rw [List.drop_eq_getElem_cons h, List.any_cons]
set_option maxRecDepth 100000 in
set_option maxHeartbeats 8000000 in
theorem covered_any (s : SegP) (A : Option Addr) (c : Nat) (X : List RgR) (w : World) (h : IsRings w A c X) (hok : ∀ r ∈ vxs X, okB r = true) :
    Yields Tryz.prog 52 #[sgv s, .slice A X.length c] w (.bool (covB s (vxs X))) := by
  apply Yields.ret
  have hlen := h.len
  have M := fun o => refMeet_any s o
  have H := Lib.hid (And.intro h (And.intro hok M))
  clear h hok M
  generalize hres : covB s (vxs X) = res
  have HR := Lib.hid hres
  clear hres
  obtain ⟨s', hs'⟩ : ∃ s', s' = s := ⟨_, rfl⟩
  obtain ⟨⟨xa, xb⟩, xc, xd⟩ := s
  rw [← hs'] at HR H
  have HSD := Lib.hid hs'
  change Calls _ _ #[sg xa xb xc xd, _] _ _
  clear hs'
  go_enter Tryz.func52, Tryz.ntmps52
  go_wp2_with fail
  go_loopg [5] X.length (fun gas s5 wr => ∃ i : Nat, i ≤ X.length ∧ X.length - i ≤ gas ∧ s5 = .int .i64 i ∧ covB s' ((vxs X).drop i) = res ∧ SinceOf (w.alloc (.cells #[.int .i64 xa, .int .i64 xb, .int .i64 xc, .int .i64 xd] 27)) wr)
  case atStart => exact ⟨0, by omega, by omega, rfl, by simpa using HR.out, by (repeat (first | (with_reducible exact SinceOf.refl _) | (with_reducible assumption) | (with_reducible refine SinceOf.alloc ?_ _) | (with_reducible refine SinceOf.drew ?_) | (with_reducible refine SinceOf.drewN ?_ _) | (with_reducible refine SinceOf.later ?_ _) | (with_reducible refine SinceOf.further ?_ _) | (with_reducible refine SinceOf.setCell ?_ (by first | exact Nat.le_refl _ | (simp; done) | omega | (simp; omega)) _)))⟩
  case round =>
    obtain ⟨i, hi, hgas, rfl, hfin, ⟨z, rfl⟩⟩ := hrel
    have hzs := z.size
    (try simp only [World.size_alloc] at hzs)
    by_cases hlt : i < X.length
    · have hx0 := H.out.1.of (w' := z.wd) (by (repeat (first | (with_reducible exact SinceOf.refl _) | (with_reducible assumption) | (with_reducible refine SinceOf.alloc ?_ _) | (with_reducible refine SinceOf.drew ?_) | (with_reducible refine SinceOf.drewN ?_ _) | (with_reducible refine SinceOf.later ?_ _) | (with_reducible refine SinceOf.further ?_ _) | (with_reducible refine SinceOf.setCell ?_ (by first | exact Nat.le_refl _ | (simp; done) | omega | (simp; omega)) _))))
      obtain ⟨g, off, rfl, hr⟩ := hx0.row.at_ (by omega)
      have hO1 := hr.there
      have k0 := hr.g0 i hlt
      have hxr := hx0.all _ (List.getElem_mem hlt)
      have hlv : i < (vxs X).length := by rw [vxs_len]; exact hlt
      have hokx : okB X[i].xs = true := by rw [← vxs_at hlt]; exact H.out.2.1 _ (List.getElem_mem hlv)
      have hE := okB_len40 hokx
      have ED := fun W (hW : SinceOf z.wd W) => refEdges_any X[i].A X[i].c X[i].xs W (hxr.row.of hW) (by have := (okB_iff.1 hokx).most; omega)
      have hst : covB s' ((vxs X).drop i) = ((edgesV X[i].xs).any (fun o => decide (meetI s' o = 3)) || covB s' ((vxs X).drop (i + 1))) := by
        unfold covB
        rw [any_dropG _ hlv, vxs_at hlt]
      rw [hst] at hfin
      generalize X[i] = x at *
      generalize edgesV x.xs = E at *
      obtain ⟨xA, xcc, xs⟩ := x
      simp only at k0 ED
      have HF := Lib.hid hfin
      clear hfin hst hx0 hr hxr hokx hlv
      go_wp2_with fail
      refine (ED _ (by (repeat (first | (with_reducible exact SinceOf.refl _) | (with_reducible assumption) | (with_reducible refine SinceOf.alloc ?_ _) | (with_reducible refine SinceOf.drew ?_) | (with_reducible refine SinceOf.drewN ?_ _) | (with_reducible refine SinceOf.later ?_ _) | (with_reducible refine SinceOf.further ?_ _) | (with_reducible refine SinceOf.setCell ?_ (by first | exact Nat.le_refl _ | (simp; done) | omega | (simp; omega)) _))))).mono ?_
      rintro e _ ⟨A8, c8, rfl, ho8, ⟨z1, rfl⟩⟩
      have hz1 := z1.size
      have H8 := Lib.hid (ho8.isRow encE_len)
      clear ED ho8
      go_wp2_with fail
      go_loopg [7] E.length (fun gas s7 wr => ∃ k : Nat, k ≤ E.length ∧ E.length - k ≤ gas ∧ s7 = .int .i64 k ∧ ((E.drop k).any (fun o => decide (meetI s' o = 3)) || covB s' ((vxs X).drop (i + 1))) = res ∧ SinceOf z1.wd wr)
      case atStart => exact ⟨0, by omega, by omega, rfl, by simpa using HF.out, by (repeat (first | (with_reducible exact SinceOf.refl _) | (with_reducible assumption) | (with_reducible refine SinceOf.alloc ?_ _) | (with_reducible refine SinceOf.drew ?_) | (with_reducible refine SinceOf.drewN ?_ _) | (with_reducible refine SinceOf.later ?_ _) | (with_reducible refine SinceOf.further ?_ _) | (with_reducible refine SinceOf.setCell ?_ (by first | exact Nat.le_refl _ | (simp; done) | omega | (simp; omega)) _)))⟩
      case round =>
        clear HF
        obtain ⟨k, hk, hgas2, rfl, hfin, ⟨v, rfl⟩⟩ := hrel
        by_cases hlt2 : k < E.length
        · have hrow := H8.out.of (w' := v.wd) (by (repeat (first | (with_reducible exact SinceOf.refl _) | (with_reducible assumption) | (with_reducible refine SinceOf.alloc ?_ _) | (with_reducible refine SinceOf.drew ?_) | (with_reducible refine SinceOf.drewN ?_ _) | (with_reducible refine SinceOf.later ?_ _) | (with_reducible refine SinceOf.further ?_ _) | (with_reducible refine SinceOf.setCell ?_ (by first | exact Nat.le_refl _ | (simp; done) | omega | (simp; omega)) _))))
          obtain ⟨g8, off8, rfl, hr⟩ := hrow.at_ (by omega)
          have hO8 := hr.there
          have a0 := hr.e0 k hlt2
          have a1 := hr.e1 k hlt2
          have a2 := hr.e2 k hlt2
          have a3 := hr.e3 k hlt2
          have M := H.out.2.2 E[k]
          rw [any_dropG _ hlt2] at hfin
          generalize E[k] = o at *
          obtain ⟨m, hm⟩ : ∃ m, m = meetI s' o := ⟨_, rfl⟩
          rw [← hm] at M hfin
          obtain ⟨bb, hbb⟩ : ∃ b, b = decide (m = 3) := ⟨_, rfl⟩
          have hb2 : (m == 3) = bb := by rw [hbb]; exact Bool.eq_iff_iff.2 (by simp)
          rw [← hbb] at hfin
          rw [HSD.out] at M
          obtain ⟨⟨oa, ob⟩, oc, od⟩ := o
          simp only at a0 a1 a2 a3
          change ∀ w, Yields _ _ #[sg xa xb xc xd, sg oa ob oc od] w _ at M
          have HF := Lib.hid hfin
          clear hfin hm hbb hr hrow
          go_wp2_with fail
          refine region_since (by kernel_rfl) (by kernel_rfl) ?_
          repeat (go_big_quiet_step (((with_reducible refine Yields.since (M _)))))
          refine wpQuiet_nil ?_
          rintro _ ⟨v1, rfl⟩
          clear M a0 a1 a2 a3
          cases bb
          · have hf2 : ((E.drop (k + 1)).any (fun o => decide (meetI s' o = 3)) || covB s' ((vxs X).drop (i + 1))) = res := by simpa using HF.out
            have HG := Lib.hid hf2
            clear hf2
            go_wp2_with fail
            go_roundg (E.length - (k + 1))
            case measure => omega
            case rel => exact ⟨k + 1, hlt2, Nat.le_refl _, by go_num, HG.out, by (repeat (first | (with_reducible exact SinceOf.refl _) | (with_reducible assumption) | (with_reducible refine SinceOf.alloc ?_ _) | (with_reducible refine SinceOf.drew ?_) | (with_reducible refine SinceOf.drewN ?_ _) | (with_reducible refine SinceOf.later ?_ _) | (with_reducible refine SinceOf.further ?_ _) | (with_reducible refine SinceOf.setCell ?_ (by first | exact Nat.le_refl _ | (simp; done) | omega | (simp; omega)) _)))⟩
          · obtain rfl : res = true := by rw [← HF.out]; simp
            go_wp2_with fail
            go_returns
            exact ⟨rfl, by (repeat (first | (with_reducible exact SinceOf.refl _) | (with_reducible assumption) | (with_reducible refine SinceOf.alloc ?_ _) | (with_reducible refine SinceOf.drew ?_) | (with_reducible refine SinceOf.drewN ?_ _) | (with_reducible refine SinceOf.later ?_ _) | (with_reducible refine SinceOf.further ?_ _) | (with_reducible refine SinceOf.setCell ?_ (by first | exact Nat.le_refl _ | (simp; done) | omega | (simp; omega)) _)))⟩
        · obtain rfl : k = E.length := by omega
          rw [List.drop_length] at hfin
          have HG := Lib.hid (show covB s' ((vxs X).drop (i + 1)) = res by simpa using hfin)
          clear hfin
          go_wp2_with fail
          go_roundg (X.length - (i + 1))
          case measure => omega
          case rel => exact ⟨i + 1, hlt, Nat.le_refl _, by go_num, HG.out, by (repeat (first | (with_reducible exact SinceOf.refl _) | (with_reducible assumption) | (with_reducible refine SinceOf.alloc ?_ _) | (with_reducible refine SinceOf.drew ?_) | (with_reducible refine SinceOf.drewN ?_ _) | (with_reducible refine SinceOf.later ?_ _) | (with_reducible refine SinceOf.further ?_ _) | (with_reducible refine SinceOf.setCell ?_ (by first | exact Nat.le_refl _ | (simp; done) | omega | (simp; omega)) _)))⟩
    · obtain rfl : i = X.length := by omega
      rw [List.drop_of_length_le (by rw [vxs_len]; exact Nat.le_refl _)] at hfin
      obtain rfl : res = false := by rw [← hfin]; rfl
      clear hfin
      go_wp2_with fail
      go_returns
      exact ⟨rfl, by (repeat (first | (with_reducible exact SinceOf.refl _) | (with_reducible assumption) | (with_reducible refine SinceOf.alloc ?_ _) | (with_reducible refine SinceOf.drew ?_) | (with_reducible refine SinceOf.drewN ?_ _) | (with_reducible refine SinceOf.later ?_ _) | (with_reducible refine SinceOf.further ?_ _) | (with_reducible refine SinceOf.setCell ?_ (by first | exact Nat.le_refl _ | (simp; done) | omega | (simp; omega)) _)))⟩
end Go.Proofs.YtkpnffokjpgalaaGreat
/- Layer 46: owned rows whose elements are written. -/
namespace Go.Proofs.YtkpnffokjpgalaaGreat
set_option linter.unusedVariables false
set_option linter.unusedSimpArgs false
open Go.RowKit Go.Sort

theorem Owns.at0 {α : Type} {enc : α → List Value} {k base : Nat} {e : TypeId} {w : World} {A : Option Addr} {c : Nat} {l : List α} (h : Owns enc k base e w A c l) (hn : 0 < l.length) : ∃ g, A = some ⟨g, 0, none⟩ ∧ base ≤ g ∧ g < w.heap.size := by
  obtain ⟨g, cap, hv, hb, hlt⟩ := World.ownsRow.form h hn
  simp only [Value.slice.injEq, true_and] at hv
  exact ⟨g, hv.1, hb, hlt⟩
theorem Owns.setAt {α : Type} {enc : α → List Value} {k base : Nat} {e : TypeId} {w : World} {c g : Nat} {l : List α} (hk : ∀ x, (enc x).length = k) (hk0 : 0 < k) (h : Owns enc k base e w (some ⟨g, 0, none⟩) c l) (i : Nat) (hi : i < l.length) (j : Nat) (hj : j < k) (u : Value) (y : α) (hy : enc y = (enc l[i]).set j u) :
    Owns enc k base e (w.setCell ⟨g, i * k + j, none⟩ u) (some ⟨g, 0, none⟩) c (l.set i y) := by
  obtain ⟨h1, -⟩ := World.ownsRow.stored h (i * k + j) u
  unfold Owns
  rw [List.length_set]
  have e1 : (l.flatMap enc).set (i * k + j) u = (l.set i y).flatMap enc := by
    apply List.ext_getElem?
    intro m
    by_cases hm : m < l.length * k
    · have hq : m / k < l.length := Nat.div_lt_of_lt_mul (by rw [Nat.mul_comm]; exact hm)
      have hr : m % k < k := Nat.mod_lt _ hk0
      have hb := flat_get hk (l.set i y) (m / k) (by rw [List.length_set]; exact hq) (m % k) hr
      have ha := flat_get hk l (m / k) hq (m % k) hr
      rw [Nat.div_add_mod'] at ha hb
      rw [hb, List.getElem?_set]
      by_cases e : i * k + j = m
      · have d1 : m / k = i := by rw [← e, Nat.mul_comm, Nat.mul_add_div hk0, Nat.div_eq_of_lt hj, Nat.add_zero]
        have d2 : m % k = j := by rw [← e, Nat.mul_comm, Nat.mul_add_mod, Nat.mod_eq_of_lt hj]
        rw [if_pos e, if_pos (by rw [flat_length hk, e]; exact hm)]
        simp only [d1, d2, List.getElem_set_self, hy, List.getElem?_set]
        simp [hk, hj]
      · rw [if_neg e, ha]
        by_cases e4 : m / k = i
        · have e5 : ¬ j = m % k := fun e5 => e (by rw [e5, ← e4, Nat.div_add_mod'])
          simp only [e4, List.getElem_set_self, hy, List.getElem?_set]
          rw [if_neg e5]
        · rw [List.getElem_set_ne (by omega)]
    · rw [List.getElem?_eq_none (by rw [List.length_set, flat_length hk]; omega), List.getElem?_eq_none (by rw [flat_length hk, List.length_set]; omega)]
  rw [← e1]; exact h1
/-- The last segment's end is written. -/
theorem Owns.setEnd {base : Nat} {w : World} {g c : Nat} {l : List SegP} {a b : Pt} (h : OwnSegs base w (some ⟨g, 0, none⟩) c (l ++ [(a, b)])) (x y : Int) :
    OwnSegs base ((w.setCell ⟨g, l.length * 4 + 2, none⟩ (.int .i64 x)).setCell ⟨g, l.length * 4 + 3, none⟩ (.int .i64 y)) (some ⟨g, 0, none⟩) c (l ++ [(a, (x, y))]) := by
  have hl : l.length < (l ++ [(a, b)]).length := by simp
  have h1 := Owns.setAt encE_len (by omega) h l.length hl 2 (by omega) (.int .i64 x) (a, (x, b.2)) (by simp [encE])
  have h2 := Owns.setAt encE_len (by omega) h1 l.length (by simp) 3 (by omega) (.int .i64 y) (a, (x, y)) (by simp [encE])
  simpa using h2
theorem Owns.free0 {α : Type} {enc : α → List Value} {k base : Nat} {e : TypeId} {w : World} {g c : Nat} {l : List α} (h : Owns enc k base e w (some ⟨g, 0, none⟩) c l) (j : Nat) : w.frozen? ⟨g, j, none⟩ = false := World.ownsRow.frozenAt h j
theorem IsRow.setOther {α : Type} {enc : α → List Value} {k : Nat} {w : World} {A : Option Addr} {c : Nat} {l : List α} (h : IsRow enc k w A c l) (g j : Nat) (u : Value) (hne : ∀ b, blockOf A = some b → b ≠ g) : IsRow enc k (w.setCell ⟨g, j, none⟩ u) A c l := by
  refine ⟨h.1, ?_⟩
  rcases h.2 with h | ⟨b, off, rfl, hr⟩
  · exact .inl h
  · refine .inr ⟨b, off, rfl, fun i hi t v hv => ?_, ?_⟩
    · have hb := hne b rfl
      rw [World.cell?_setCell_other _ _ _ _ (by intro e; injection e with e1; exact hb e1.symm)]
      exact hr.cells i hi t v hv
    · have := hr.there; exact inferInstance
end Go.Proofs.YtkpnffokjpgalaaGreat
/- Layer 46: Once of the reference. -/
namespace Go.Proofs.YtkpnffokjpgalaaGreat
set_option linter.unusedVariables false
set_option linter.unusedSimpArgs false
open Go.RowKit Go.Sort
attribute [local go_sem ↓] Go.wp_at_zero Go.wp_at_succ

theorem IsRings.takeX {w : World} {A : Option Addr} {c : Nat} {X : List RgR} (h : IsRings w A c X) (n : Nat) : IsRings w A c (X.take n) :=
  ⟨h.row.take n, fun x hx => h.all x (List.mem_of_mem_take hx), by have := h.len; rw [List.length_take]; omega⟩
theorem vxs_take (X : List RgR) (n : Nat) : vxs (X.take n) = (vxs X).take n := by unfold vxs; rw [List.map_take]
/-- What Once answers. -/
def OnceE (w : World) (o : List SegP × Int) (e : Ending) (w' : World) : Prop := ∃ A' c', e = .returned (.tuple #[.slice A' o.1.length c', .int .i64 o.2]) ∧ OwnSegs w.heap.size w' A' c' o.1 ∧ o.1.length ≤ 40000000 ∧ SinceOf w w'
set_option maxRecDepth 100000 in
set_option maxHeartbeats 16000000 in
theorem refOnce_any (A : Option Addr) (c : Nat) (X : List RgR) (w : World) (h : IsRings w A c X) (hcap : X.length ≤ c) :
    Calls Tryz.prog 17 #[.slice A X.length c] w (OnceE w (onceR (vxs X))) := by
  have hlen := h.len
  have H := Lib.hid h
  clear h
  generalize hres : onceR (vxs X) = res
  have HR := Lib.hid hres
  clear hres
  by_cases h120 : 120 < X.length
  · have g1 : decide (120 < (X.length : Int)) = true := decide_eq_true (by omega)
    obtain rfl : res = ([], 9) := by rw [← HR.out]; unfold onceR; rw [vxs_len, if_pos h120]
    clear h120
    go_enter Tryz.func17, Tryz.ntmps17
    go_wp2_with fail
    go_returns
    exact ⟨none, 0, rfl, Owns.nil _ _ _ _ _, (by show (0:Nat) ≤ _; omega), by (repeat (first | (with_reducible exact SinceOf.refl _) | (with_reducible assumption) | (with_reducible refine SinceOf.alloc ?_ _) | (with_reducible refine SinceOf.drew ?_) | (with_reducible refine SinceOf.drewN ?_ _) | (with_reducible refine SinceOf.later ?_ _) | (with_reducible refine SinceOf.further ?_ _) | (with_reducible refine SinceOf.setCell ?_ (by first | exact Nat.le_refl _ | (simp; done) | omega | (simp; omega)) _)))⟩
  have g1 : decide (120 < (X.length : Int)) = false := decide_eq_false (by omega)
  obtain ⟨i1, hi, hz0, hz1, hz2⟩ := info_parts infoSeg
  have HJ := Lib.hid (And.intro hi (And.intro hz0 (And.intro hz1 hz2)))
  clear hi hz0 hz1 hz2
  go_enter Tryz.func17, Tryz.ntmps17
  go_wp2_with fail
  clear g1
  go_loopg [4] X.length (fun gas s4 wr => ∃ i : Nat, i ≤ X.length ∧ X.length - i ≤ gas ∧ s4 = .int .i64 i ∧ (∀ r ∈ (vxs X).take i, okB r = true) ∧ SinceOf w wr)
  case atStart => exact ⟨0, by omega, by omega, rfl, fun r hr => by simp at hr, by (repeat (first | (with_reducible exact SinceOf.refl _) | (with_reducible assumption) | (with_reducible refine SinceOf.alloc ?_ _) | (with_reducible refine SinceOf.drew ?_) | (with_reducible refine SinceOf.drewN ?_ _) | (with_reducible refine SinceOf.later ?_ _) | (with_reducible refine SinceOf.further ?_ _) | (with_reducible refine SinceOf.setCell ?_ (by first | exact Nat.le_refl _ | (simp; done) | omega | (simp; omega)) _)))⟩
  case round =>
    obtain ⟨i, hi, hgas, rfl, hall, ⟨z, rfl⟩⟩ := hrel
    by_cases hlt : i < X.length
    · have hx0 := H.out.of (w' := z.wd) (by (repeat (first | (with_reducible exact SinceOf.refl _) | (with_reducible assumption) | (with_reducible refine SinceOf.alloc ?_ _) | (with_reducible refine SinceOf.drew ?_) | (with_reducible refine SinceOf.drewN ?_ _) | (with_reducible refine SinceOf.later ?_ _) | (with_reducible refine SinceOf.further ?_ _) | (with_reducible refine SinceOf.setCell ?_ (by first | exact Nat.le_refl _ | (simp; done) | omega | (simp; omega)) _))))
      obtain ⟨g, off, rfl, hr⟩ := hx0.row.at_ (by omega)
      have hO1 := hr.there
      have k0 := hr.g0 i hlt
      have hxr := hx0.all _ (List.getElem_mem hlt)
      have hlv : i < (vxs X).length := by rw [vxs_len]; exact hlt
      have V := refRingValid_any X[i].A X[i].c X[i].xs z.wd hxr.row hxr.len
      have htk : (vxs X).take (i + 1) = (vxs X).take i ++ [X[i].xs] := by rw [List.take_succ_eq_append_getElem hlv, vxs_at hlt]
      have hmem : X[i].xs ∈ vxs X := by rw [← vxs_at hlt]; exact List.getElem_mem hlv
      have HS := Lib.hid (And.intro hall (And.intro htk hmem))
      generalize X[i] = x at *
      obtain ⟨bv, hbv⟩ : ∃ b, b = okB x.xs := ⟨_, rfl⟩
      rw [← hbv] at V
      have HB := Lib.hid hbv
      obtain ⟨xA, xcc, xs⟩ := x
      simp only at k0 V
      clear hall htk hmem hbv hr hxr hx0 hlv
      go_wp2_with fail
      refine V.calls.mono ?_
      rintro e _ ⟨rfl, x1, rfl⟩
      clear V
      cases bv
      · obtain rfl : res = ([], 11) := by
          rw [← HR.out]
          unfold onceR
          rw [vxs_len, if_neg h120, if_neg]
          intro e
          have := List.all_eq_true.1 e _ HS.out.2.2
          have h2 := HB.out
          rw [this] at h2
          cases h2
        go_wp2_with fail
        go_returns
        exact ⟨none, 0, rfl, Owns.nil _ _ _ _ _, (by show (0:Nat) ≤ _; omega), by (repeat (first | (with_reducible exact SinceOf.refl _) | (with_reducible assumption) | (with_reducible refine SinceOf.alloc ?_ _) | (with_reducible refine SinceOf.drew ?_) | (with_reducible refine SinceOf.drewN ?_ _) | (with_reducible refine SinceOf.later ?_ _) | (with_reducible refine SinceOf.further ?_ _) | (with_reducible refine SinceOf.setCell ?_ (by first | exact Nat.le_refl _ | (simp; done) | omega | (simp; omega)) _)))⟩
      · go_wp2_with fail
        go_roundg (X.length - (i + 1))
        case measure => omega
        case rel => exact ⟨i + 1, hlt, Nat.le_refl _, by go_num, fun r hr => by
          rw [HS.out.2.1] at hr
          rcases List.mem_append.1 hr with hr | hr
          · exact HS.out.1 r hr
          · simp only [List.mem_singleton] at hr; subst hr; exact HB.out.symm, by (repeat (first | (with_reducible exact SinceOf.refl _) | (with_reducible assumption) | (with_reducible refine SinceOf.alloc ?_ _) | (with_reducible refine SinceOf.drew ?_) | (with_reducible refine SinceOf.drewN ?_ _) | (with_reducible refine SinceOf.later ?_ _) | (with_reducible refine SinceOf.further ?_ _) | (with_reducible refine SinceOf.setCell ?_ (by first | exact Nat.le_refl _ | (simp; done) | omega | (simp; omega)) _)))⟩
    · obtain rfl : i = X.length := by omega
      rw [List.take_of_length_le (by rw [vxs_len]; exact Nat.le_refl _)] at hall
      obtain rfl : res = (onceF [] (vxs X), 0) := by
        rw [← HR.out]
        unfold onceR
        rw [vxs_len, if_neg h120, if_pos (List.all_eq_true.2 hall)]
      have HA := Lib.hid hall
      clear hall
      go_wp2_with fail
      go_loopg [5, 6] X.length (fun gas s5 s6 wr => ∃ (i : Nat) (A4 : Option Addr) (c4 : Nat) (O : List SegP), i ≤ X.length ∧ X.length - i ≤ gas ∧ s5 = .slice A4 O.length c4 ∧ s6 = .int .i64 i ∧ O = onceF [] ((vxs X).take i) ∧ O.length ≤ i * 320000 ∧ OwnSegs w.heap.size wr A4 c4 O ∧ SinceOf w wr)
      case atStart => exact ⟨0, none, 0, [], by omega, by omega, rfl, rfl, rfl, by simp, Owns.nil _ _ _ _ _, by (repeat (first | (with_reducible exact SinceOf.refl _) | (with_reducible assumption) | (with_reducible refine SinceOf.alloc ?_ _) | (with_reducible refine SinceOf.drew ?_) | (with_reducible refine SinceOf.drewN ?_ _) | (with_reducible refine SinceOf.later ?_ _) | (with_reducible refine SinceOf.further ?_ _) | (with_reducible refine SinceOf.setCell ?_ (by first | exact Nat.le_refl _ | (simp; done) | omega | (simp; omega)) _)))⟩
      case round =>
        obtain ⟨i, A4, c4, O, hi, hgas2, rfl, rfl, hO, hOl, hoO, ⟨z2, rfl⟩⟩ := hrel
        have hzs := z2.size
        by_cases hlt2 : i < X.length
        · have hx0 := H.out.of (w' := z2.wd) (by (repeat (first | (with_reducible exact SinceOf.refl _) | (with_reducible assumption) | (with_reducible refine SinceOf.alloc ?_ _) | (with_reducible refine SinceOf.drew ?_) | (with_reducible refine SinceOf.drewN ?_ _) | (with_reducible refine SinceOf.later ?_ _) | (with_reducible refine SinceOf.further ?_ _) | (with_reducible refine SinceOf.setCell ?_ (by first | exact Nat.le_refl _ | (simp; done) | omega | (simp; omega)) _))))
          obtain ⟨g, off, rfl, hr⟩ := hx0.row.at_ (by omega)
          have hO1 := hr.there
          have k0 := hr.g0 i hlt2
          have hxr := hx0.all _ (List.getElem_mem hlt2)
          have hlv : i < (vxs X).length := by rw [vxs_len]; exact hlt2
          have hokx : okB X[i].xs = true := by rw [← vxs_at hlt2]; exact HA.out _ (List.getElem_mem hlv)
          have htk : (vxs X).take (i + 1) = (vxs X).take i ++ [X[i].xs] := by rw [List.take_succ_eq_append_getElem hlv, vxs_at hlt2]
          obtain ⟨hE1, hE2⟩ := okB_edgeN hokx
          have hEl := okB_len40 hokx
          have hof : onceF [] ((vxs X).take (i + 1)) = O ++ leftAll (cutL ((vxs X).take i)) (edgesV X[i].xs) := by rw [htk, onceF_snoc, hO, hE1, List.nil_append]
          have ED := fun W (hW : SinceOf z2.wd W) => refEdges_any X[i].A X[i].c X[i].xs W (hxr.row.of hW) (by have := (okB_iff.1 hokx).most; omega)
          obtain ⟨x, hx⟩ : ∃ x, x = X[i] := ⟨_, rfl⟩
          rw [← hx] at k0 ED hof hE2 hEl
          obtain ⟨D, hD⟩ : ∃ D, D = cutL ((vxs X).take i) := ⟨_, rfl⟩
          rw [← hD] at hof
          generalize edgesV x.xs = E at *
          have HS := Lib.hid (And.intro hof (And.intro hD (And.intro hE2 hoO)))
          obtain ⟨hE3, hE40⟩ := hEl
          obtain ⟨xA, xcc, xs⟩ := x
          simp only at k0 ED
          clear hof hE1 hE2 hO hoO hx0 hr hxr htk hokx hlv hx hD
          go_wp2_with fail
          refine (ED _ (by (repeat (first | (with_reducible exact SinceOf.refl _) | (with_reducible assumption) | (with_reducible refine SinceOf.alloc ?_ _) | (with_reducible refine SinceOf.drew ?_) | (with_reducible refine SinceOf.drewN ?_ _) | (with_reducible refine SinceOf.later ?_ _) | (with_reducible refine SinceOf.further ?_ _) | (with_reducible refine SinceOf.setCell ?_ (by first | exact Nat.le_refl _ | (simp; done) | omega | (simp; omega)) _))))).mono ?_
          rintro e _ ⟨A8, c8, rfl, ho8, ⟨z3, rfl⟩⟩
          have hz3 := z3.size
          have p8 : Apt A8 A4 := (Apt.older (fun b hb => (HS.out.2.2.2.below b hb).2) (fun b hb => (ho8.below b hb).1)).symm
          have H8 := Lib.hid (And.intro (ho8.isRow encE_len) p8)
          clear ED ho8 p8
          go_wp2_with fail
          go_loopg [5, 8] E.length (fun gas s5 s8 wr => ∃ (k : Nat) (A6 : Option Addr) (c6 : Nat) (O2 : List SegP), k ≤ E.length ∧ E.length - k ≤ gas ∧ s5 = .slice A6 O2.length c6 ∧ s8 = .int .i64 k ∧ O2 = O ++ leftAll D (E.take k) ∧ O2.length ≤ O.length + k * 8000 ∧ OwnSegs w.heap.size wr A6 c6 O2 ∧ IsSegs wr A8 c8 E ∧ Apt A8 A6 ∧ SinceOf w wr)
          case atStart => exact ⟨0, A4, c4, O, by omega, by omega, rfl, rfl, by simp [leftAll], by omega, HS.out.2.2.2.of (by (repeat (first | (with_reducible exact SinceOf.refl _) | (with_reducible assumption) | (with_reducible refine SinceOf.alloc ?_ _) | (with_reducible refine SinceOf.drew ?_) | (with_reducible refine SinceOf.drewN ?_ _) | (with_reducible refine SinceOf.later ?_ _) | (with_reducible refine SinceOf.further ?_ _) | (with_reducible refine SinceOf.setCell ?_ (by first | exact Nat.le_refl _ | (simp; done) | omega | (simp; omega)) _)))), H8.out.1, H8.out.2, by (repeat (first | (with_reducible exact SinceOf.refl _) | (with_reducible assumption) | (with_reducible refine SinceOf.alloc ?_ _) | (with_reducible refine SinceOf.drew ?_) | (with_reducible refine SinceOf.drewN ?_ _) | (with_reducible refine SinceOf.later ?_ _) | (with_reducible refine SinceOf.further ?_ _) | (with_reducible refine SinceOf.setCell ?_ (by first | exact Nat.le_refl _ | (simp; done) | omega | (simp; omega)) _)))⟩
          case round =>
            clear H8
            obtain ⟨k, A6, c6, O2, hk, hgas3, rfl, rfl, hO2, hO2l, hoO, hrow, hap8, ⟨v, rfl⟩⟩ := hrel
            have hvs := v.size
            by_cases hlt3 : k < E.length
            · have hsn := HS.out.2.2.1 _ (List.getElem_mem hlt3)
              have hla : leftAll D (E.take (k + 1)) = leftAll D (E.take k) ++ leftK E[k] D := by rw [List.take_succ_eq_append_getElem hlt3, leftAll_snoc]
              have hl8 := leftK_8000 hsn D
              obtain ⟨s, hs⟩ : ∃ s, s = E[k] := ⟨_, rfl⟩
              rw [← hs] at hla hl8 hsn
              obtain ⟨S, hS⟩ : ∃ S : Nat, (S : Int) = stepsK s.1 s.2 := ⟨(stepsK s.1 s.2).toNat, by have := stepsK_small hsn.2.1 hsn.2.2 hsn.1; omega⟩
              have hS8 : 0 < S ∧ S ≤ 8000 := by have := stepsK_small hsn.2.1 hsn.2.2 hsn.1; omega
              have hlk : leftK s D = (stR (freeB s D) S).2.map (segI s) := by
                unfold leftK runsI
                rw [← hS]; rfl
              have hnx : O ++ leftAll D (E.take (k + 1)) = O2 ++ leftK s D := by rw [hla, hO2, List.append_assoc]
              have HW := Lib.hid (And.intro hoO (And.intro hrow (And.intro hap8 (And.intro hnx (And.intro hlk (And.intro hS (And.intro hsn hs)))))))
              clear hoO hrow hap8 hsn hla hs hO2 hnx hlk hS hl8
              go_wp2_with fail
              go_loopg [5, 9, 10] S (fun gas s5 s9 s10 wr => ∃ (n : Nat) (A7 : Option Addr) (c7 : Nat) (O3 : List SegP) (bo : Bool), n ≤ S ∧ S - n ≤ gas ∧ s5 = .slice A7 O3.length c7 ∧ s9 = .bool bo ∧ s10 = .int .i64 n ∧ O3 = O2 ++ (stR (freeB s D) n).2.map (segI s) ∧ bo = (stR (freeB s D) n).1 ∧ O3.length ≤ O2.length + n ∧ OwnSegs w.heap.size wr A7 c7 O3 ∧ IsSegs wr A8 c8 E ∧ Apt A8 A7 ∧ SinceOf w wr)
              case atStart => exact ⟨0, A6, c6, O2, false, by omega, by omega, rfl, rfl, rfl, by simp [stR], rfl, by omega, HW.out.1.of (by (repeat (first | (with_reducible exact SinceOf.refl _) | (with_reducible assumption) | (with_reducible refine SinceOf.alloc ?_ _) | (with_reducible refine SinceOf.drew ?_) | (with_reducible refine SinceOf.drewN ?_ _) | (with_reducible refine SinceOf.later ?_ _) | (with_reducible refine SinceOf.further ?_ _) | (with_reducible refine SinceOf.setCell ?_ (by first | exact Nat.le_refl _ | (simp; done) | omega | (simp; omega)) _)))), HW.out.2.1, HW.out.2.2.1, by (repeat (first | (with_reducible exact SinceOf.refl _) | (with_reducible assumption) | (with_reducible refine SinceOf.alloc ?_ _) | (with_reducible refine SinceOf.drew ?_) | (with_reducible refine SinceOf.drewN ?_ _) | (with_reducible refine SinceOf.later ?_ _) | (with_reducible refine SinceOf.further ?_ _) | (with_reducible refine SinceOf.setCell ?_ (by first | exact Nat.le_refl _ | (simp; done) | omega | (simp; omega)) _)))⟩
              case round =>
                obtain ⟨n, A7, c7, O3, bo, hn, hgas4, rfl, rfl, rfl, hO3, hbo, hO3l, hoO, hrow, hap8, ⟨u, rfl⟩⟩ := hrel
                have hus := u.size
                obtain ⟨g8, off8, rfl, hr⟩ := hrow.at_ (by omega)
                have hO8 := hr.there
                have a0 := hr.e0 k hlt3
                have a1 := hr.e1 k hlt3
                have a2 := hr.e2 k hlt3
                have a3 := hr.e3 k hlt3
                have HE := HW.out.2.2.2.2.2.2.2
                rw [← HE] at a0 a1 a2 a3
                have hsn := HW.out.2.2.2.2.2.2.1
                have T := refSteps_any s
                unfold stepsI at T
                rw [if_pos (segN_ok hsn), ← HW.out.2.2.2.2.2.1] at T
                by_cases hlt4 : n < S
                · have P1 := refPoint_any s (n : Int) (segN_ok hsn) hsn.1 (by unfold small5; omega)
                  have P2 := refPoint_any s ((n : Int) + 1) (segN_ok hsn) hsn.1 (by unfold small5; omega)
                  have hcf := cov_free hsn (take_okB (List.all_eq_true.2 HA.out) i) (n := n) (by rw [← HW.out.2.2.2.2.2.1]; omega)
                  rw [← HS.out.2.1] at hcf
                  have hseg : segI s ((n : Int), (n : Int) + 1) = (pointK s.1 s.2 n, pointK s.1 s.2 ((n : Int) + 1)) := rfl
                  have hok9 : ∀ r ∈ vxs (X.take i), okB r = true := by rw [vxs_take]; exact take_okB (List.all_eq_true.2 HA.out) i
                  have CV := fun W (hW : SinceOf u.wd W) => covered_any (segI s ((n : Int), (n : Int) + 1)) (some ⟨g, off, none⟩) c (X.take i) W ((H.out.of (SinceOf.trans ⟨u, rfl⟩ hW)).takeX i) hok9
                  rw [vxs_take, hcf, List.length_take, Nat.min_eq_left (by omega), hseg] at CV
                  have hs0 : segI s ((n : Int), (n : Int) + 1) = (pointK s.1 s.2 n, pointK s.1 s.2 ((n : Int) + 1)) ∧ ∀ x, segI s (x, (n : Int) + 1) = ((segI s (x, (n : Int))).1, pointK s.1 s.2 ((n : Int) + 1)) := ⟨rfl, fun x => rfl⟩
                  generalize pointK s.1 s.2 (n : Int) = p at *
                  generalize pointK s.1 s.2 ((n : Int) + 1) = q at *
                  obtain ⟨fb, hfb⟩ : ∃ b, b = freeB s D n := ⟨_, rfl⟩
                  rw [← hfb] at CV
                  have HV := Lib.hid (And.intro hO3 (And.intro hbo (And.intro hoO (And.intro hrow (And.intro hap8 (And.intro hfb hs0))))))
                  obtain ⟨p0, p1⟩ := p
                  obtain ⟨q0, q1⟩ := q
                  change ∀ w, Gives _ _ #[sg s.1.1 s.1.2 s.2.1 s.2.2] w _ at T
                  change ∀ w, Gives _ _ #[sg s.1.1 s.1.2 s.2.1 s.2.2, _] w (vv p0 p1) at P1
                  change ∀ w, Gives _ _ #[sg s.1.1 s.1.2 s.2.1 s.2.2, _] w (vv q0 q1) at P2
                  change ∀ W, SinceOf u.wd W → Yields _ _ #[sg p0 p1 q0 q1, _] W _ at CV
                  clear hO3 hbo hoO hrow hap8 hfb hs0 hr hsn HE hcf hseg hok9
                  generalize s.1.1 = xa at a0 T P1 P2
                  generalize s.1.2 = xb at a1 T P1 P2
                  generalize s.2.1 = xc at a2 T P1 P2
                  generalize s.2.2 = xd at a3 T P1 P2
                  have hw1 : IntKind.i64.wrap ((n : Int) + 1) = (n : Int) + 1 := IntWalk.i64_in _ (by omega)
                  have hic : i ≤ c := by omega
                  have hicap : decide ((i : Int) ≤ (c : Int)) = true := decide_eq_true (by omega)
                  go_wp2_with fail
                  refine (T _).calls.mono ?_
                  rintro e _ ⟨rfl, u1, rfl⟩
                  have hu1 := u1.size
                  go_upto_region 20 with fail
                  go_cut [11] from 53 to 66 (fun s11 wx => ∃ b : Nat, s11 = .pointer (some ⟨b, 0, none⟩) ∧ u.wd.heap.size ≤ b ∧ b < wx.heap.size ∧ wx.cell? ⟨b, 0, none⟩ = some (.int .i64 p0) ∧ wx.cell? ⟨b, 1, none⟩ = some (.int .i64 p1) ∧ wx.cell? ⟨b, 2, none⟩ = some (.int .i64 q0) ∧ wx.cell? ⟨b, 3, none⟩ = some (.int .i64 q1) ∧ SinceOf u.wd wx)
                  case first =>
                    go_region_held3 (fun w' => w'.cell? ⟨g8, off8 + k * 4, none⟩ = some (.int .i64 xa) ∧ w'.cell? ⟨g8, off8 + k * 4 + 1, none⟩ = some (.int .i64 xb) ∧ w'.cell? ⟨g8, off8 + k * 4 + 2, none⟩ = some (.int .i64 xc) ∧ w'.cell? ⟨g8, off8 + k * 4 + 3, none⟩ = some (.int .i64 xd)) ((simp [go_sem, *]))
                      (first | (go_at_call 41; (with_reducible refine (P1 _).calls.mono ?_); rintro e _ ⟨rfl, y1, rfl⟩; have sy1 := y1.size; (try simp only [World.size_alloc, World.size_drew] at sy1)) | (go_at_call 41; (with_reducible refine (P2 _).calls.mono ?_); rintro e _ ⟨rfl, y2, rfl⟩; have sy2 := y2.size; (try simp only [World.size_alloc, World.size_drew] at sy2)))
                    all_goals
                      go_wp2_with fail
                      go_meet
                      refine ⟨_, rfl, ?_, ?_, ?_, ?_, ?_, ?_, by (repeat (first | (with_reducible exact SinceOf.refl _) | (with_reducible assumption) | (with_reducible refine SinceOf.alloc ?_ _) | (with_reducible refine SinceOf.drew ?_) | (with_reducible refine SinceOf.drewN ?_ _) | (with_reducible refine SinceOf.later ?_ _) | (with_reducible refine SinceOf.further ?_ _) | (with_reducible refine SinceOf.setCell ?_ (by first | exact Nat.le_refl _ | (simp; done) | omega | (simp; omega)) _)))⟩
                      · first | omega | (simp; omega)
                      · first | omega | (simp; done) | (simp; omega)
                      · simp [go_sem]
                      · simp [go_sem]
                      · simp [go_sem]
                      · simp [go_sem]
                  case rest =>
                    obtain ⟨b, rfl, hb0, hb1, c0, c1, c2, c3, ⟨u2, rfl⟩⟩ := hcut
                    have hu2 := u2.size
                    have hob : Nonempty (Old u2.wd b) := ⟨⟨hb1⟩⟩
                    clear P1 P2 T a0 a1 a2 a3 hw1
                    go_upto_region 21 with fail
                    refine region_since (by kernel_rfl) (by kernel_rfl) ?_
                    repeat (go_big_quiet_step (((with_reducible refine Yields.since (CV _ (by (repeat (first | (with_reducible exact SinceOf.refl _) | (with_reducible assumption) | (with_reducible refine SinceOf.alloc ?_ _) | (with_reducible refine SinceOf.drew ?_) | (with_reducible refine SinceOf.drewN ?_ _) | (with_reducible refine SinceOf.later ?_ _) | (with_reducible refine SinceOf.further ?_ _) | (with_reducible refine SinceOf.setCell ?_ (by first | exact Nat.le_refl _ | (simp; done) | omega | (simp; omega)) _)))))))))
                    refine wpQuiet_nil ?_
                    rintro _ ⟨u3, rfl⟩
                    have hu3 := u3.size
                    clear CV
                    cases fb
                    · have e1 := stR_cov (n := n) HV.out.2.2.2.2.2.1.symm
                      have HX := Lib.hid e1
                      clear e1 c0 c1 c2 c3
                      go_wp2_with fail
                      go_roundg (S - (n + 1))
                      case measure => omega
                      case rel => exact ⟨n + 1, A7, c7, O3, false, hlt4, Nat.le_refl _, rfl, rfl, by go_num, by rw [HX.out]; exact HV.out.1, by rw [HX.out], by omega, HV.out.2.2.1.of (by (repeat (first | (with_reducible exact SinceOf.refl _) | (with_reducible assumption) | (with_reducible refine SinceOf.alloc ?_ _) | (with_reducible refine SinceOf.drew ?_) | (with_reducible refine SinceOf.drewN ?_ _) | (with_reducible refine SinceOf.later ?_ _) | (with_reducible refine SinceOf.further ?_ _) | (with_reducible refine SinceOf.setCell ?_ (by first | exact Nat.le_refl _ | (simp; done) | omega | (simp; omega)) _)))), HV.out.2.2.2.1.of (by (repeat (first | (with_reducible exact SinceOf.refl _) | (with_reducible assumption) | (with_reducible refine SinceOf.alloc ?_ _) | (with_reducible refine SinceOf.drew ?_) | (with_reducible refine SinceOf.drewN ?_ _) | (with_reducible refine SinceOf.later ?_ _) | (with_reducible refine SinceOf.further ?_ _) | (with_reducible refine SinceOf.setCell ?_ (by first | exact Nat.le_refl _ | (simp; done) | omega | (simp; omega)) _)))), HV.out.2.2.2.2.1, by (repeat (first | (with_reducible exact SinceOf.refl _) | (with_reducible assumption) | (with_reducible refine SinceOf.alloc ?_ _) | (with_reducible refine SinceOf.drew ?_) | (with_reducible refine SinceOf.drewN ?_ _) | (with_reducible refine SinceOf.later ?_ _) | (with_reducible refine SinceOf.further ?_ _) | (with_reducible refine SinceOf.setCell ?_ (by first | exact Nat.le_refl _ | (simp; done) | omega | (simp; omega)) _)))⟩
                    · cases bo
                      · have e1 := stR_new (n := n) HV.out.2.2.2.2.2.1.symm HV.out.2.1.symm
                        have hsg : segI s ((n : Int), (n : Int) + 1) = ((p0, p1), (q0, q1)) := HV.out.2.2.2.2.2.2.1
                        have HX := Lib.hid (And.intro e1 hsg)
                        clear e1 hsg
                        go_wp2_with (at_builtin; refine wpList_append_row rfl (.tmp 81) (.tmp 83) 30 rfl encE_len (by omega) encE_one i1 _ 32 Tryz.underlying30 HJ.out.1 HJ.out.2.1 HJ.out.2.2.1 HJ.out.2.2.2 rfl (l := O3) (A := A7) (c := c7) (base := w.heap.size) rfl (HV.out.2.2.1.of (by (repeat (first | (with_reducible exact SinceOf.refl _) | (with_reducible assumption) | (with_reducible refine SinceOf.alloc ?_ _) | (with_reducible refine SinceOf.drew ?_) | (with_reducible refine SinceOf.drewN ?_ _) | (with_reducible refine SinceOf.later ?_ _) | (with_reducible refine SinceOf.further ?_ _) | (with_reducible refine SinceOf.setCell ?_ (by first | exact Nat.le_refl _ | (simp; done) | omega | (simp; omega)) _))))) (m := [((p0, p1), (q0, q1))]) rfl (isRow_atE _ _ _ _ _ _ (by first | rfl | simp)) (by unfold maxLen; simp; omega) (by simp; omega) (by simp; omega) ?_; intro A9 c9 w9 ho9 hgr9 hb9)
                        have k2 := row_keep (HV.out.2.2.2.1.of (by (repeat (first | (with_reducible exact SinceOf.refl _) | (with_reducible assumption) | (with_reducible refine SinceOf.alloc ?_ _) | (with_reducible refine SinceOf.drew ?_) | (with_reducible refine SinceOf.drewN ?_ _) | (with_reducible refine SinceOf.later ?_ _) | (with_reducible refine SinceOf.further ?_ _) | (with_reducible refine SinceOf.setCell ?_ (by first | exact Nat.le_refl _ | (simp; done) | omega | (simp; omega)) _))))) (by omega) HV.out.2.2.2.2.1 hgr9 hb9
                        have k4 : SinceOf w w9 := SinceOf.grown (by (repeat (first | (with_reducible exact SinceOf.refl _) | (with_reducible assumption) | (with_reducible refine SinceOf.alloc ?_ _) | (with_reducible refine SinceOf.drew ?_) | (with_reducible refine SinceOf.drewN ?_ _) | (with_reducible refine SinceOf.later ?_ _) | (with_reducible refine SinceOf.further ?_ _) | (with_reducible refine SinceOf.setCell ?_ (by first | exact Nat.le_refl _ | (simp; done) | omega | (simp; omega)) _)))) hgr9 (fun q hq => (HV.out.2.2.1.below q hq).1)
                        have HK := Lib.hid (And.intro k2 (And.intro k4 ho9))
                        clear k2 k4 ho9 hgr9 hb9 c0 c1 c2 c3
                        go_wp2_with fail
                        go_roundg (S - (n + 1))
                        case measure => omega
                        case rel => exact ⟨n + 1, A9, c9, O3 ++ [((p0, p1), (q0, q1))], true, hlt4, Nat.le_refl _, (by first | rfl | simp), rfl, by go_num, by rw [HX.out.1]; simp only [List.map_append, List.map_cons, List.map_nil, HX.out.2]; rw [← List.append_assoc, ← HV.out.1], by rw [HX.out.1], by simp; omega, HK.out.2.2, HK.out.1.1, HK.out.1.2, HK.out.2.1⟩
                      · obtain ⟨l, x, hlx⟩ := stR_open HV.out.2.1.symm
                        have e1 := stR_go (n := n) HV.out.2.2.2.2.2.1.symm HV.out.2.1.symm
                        rw [hlx, setB_push] at e1
                        have hO := HV.out.1
                        rw [hlx, List.map_append, ← List.append_assoc] at hO
                        obtain ⟨O4, hO4⟩ : ∃ O4, O4 = O2 ++ l.map (segI s) := ⟨_, rfl⟩
                        rw [← hO4] at hO
                        obtain ⟨⟨pa, pb⟩, hpab⟩ : ∃ y : SegP, y = segI s (x, (n : Int)) := ⟨_, rfl⟩
                        have hO5 : O3 = O4 ++ [(pa, pb)] := by rw [hO, hpab]; rfl
                        have hsx : segI s (x, (n : Int) + 1) = (pa, (q0, q1)) := by rw [HV.out.2.2.2.2.2.2.2 x, ← hpab]
                        have hfin : O4 ++ [(pa, (q0, q1))] = O2 ++ (stR (freeB s D) (n + 1)).2.map (segI s) := by
                          rw [e1, hO4]
                          simp only [List.map_append, List.map_cons, List.map_nil, hsx, List.append_assoc]
                        have hown := HV.out.2.2.1
                        have hrowE := HV.out.2.2.2.1.of (w' := u3.wd) (by (repeat (first | (with_reducible exact SinceOf.refl _) | (with_reducible assumption) | (with_reducible refine SinceOf.alloc ?_ _) | (with_reducible refine SinceOf.drew ?_) | (with_reducible refine SinceOf.drewN ?_ _) | (with_reducible refine SinceOf.later ?_ _) | (with_reducible refine SinceOf.further ?_ _) | (with_reducible refine SinceOf.setCell ?_ (by first | exact Nat.le_refl _ | (simp; done) | omega | (simp; omega)) _))))
                        have hapE := HV.out.2.2.2.2.1
                        have hlen3 : O3.length = O4.length + 1 := by rw [hO5]; simp
                        rw [hO5] at hown
                        have hown3 := hown.of (w' := u3.wd) (by (repeat (first | (with_reducible exact SinceOf.refl _) | (with_reducible assumption) | (with_reducible refine SinceOf.alloc ?_ _) | (with_reducible refine SinceOf.drew ?_) | (with_reducible refine SinceOf.drewN ?_ _) | (with_reducible refine SinceOf.later ?_ _) | (with_reducible refine SinceOf.further ?_ _) | (with_reducible refine SinceOf.setCell ?_ (by first | exact Nat.le_refl _ | (simp; done) | omega | (simp; omega)) _))))
                        obtain ⟨g7, rfl, hg7, hg7b⟩ := hown3.at0 (by simp)
                        have hr7 := (hown3.isRow encE_len).at_ (by simp)
                        obtain ⟨gg, oo, egg, hr7⟩ := hr7
                        simp only [Option.some.injEq, Addr.mk.injEq, and_true] at egg
                        obtain ⟨rfl, rfl⟩ := egg
                        have x2 := hr7.e2 O4.length (by simp)
                        have x3 := hr7.e3 O4.length (by simp)
                        simp only [Nat.zero_add] at x2 x3
                        generalize ((O4 ++ [(pa, pb)])[O4.length]'(by simp)).2.1 = z0 at x2
                        generalize ((O4 ++ [(pa, pb)])[O4.length]'(by simp)).2.2 = z1 at x3
                        have f2 := hown3.free0 (O4.length * 4 + 2)
                        have f3 := hown3.free0 (O4.length * 4 + 3)
                        have hset := Owns.setEnd hown3 q0 q1
                        have hne : ∀ b, blockOf (some ⟨g8, off8, none⟩) = some b → b ≠ g7 := fun b hb e => hapE b hb (by rw [e]; rfl)
                        have hE2 := (hrowE.setOther g7 (O4.length * 4 + 2) (.int .i64 q0) hne).setOther g7 (O4.length * 4 + 3) (.int .i64 q1) hne
                        obtain ⟨m, hm⟩ : ∃ m, m = O4.length := ⟨_, rfl⟩
                        rw [← hm] at x2 x3 f2 f3 hset hE2 hlen3
                        have HX := Lib.hid (And.intro hset (And.intro hE2 (And.intro hapE (And.intro hfin (And.intro e1 (And.intro hm hlen3))))))
                        have ei : (O3.length : Int) - 1 = (m : Int) := by omega
                        have hmi : (m : Int) < (O3.length : Int) := by omega
                        have o7 : Nonempty (Old u3.wd g7) := ⟨⟨hg7b⟩⟩
                        clear hlx e1 hO hO4 hpab hO5 hsx hfin hown hrowE hapE hown3 hr7 hset hne hE2 hm hlen3
                        go_wp2_with fail
                        go_roundg (S - (n + 1))
                        case measure => omega
                        case rel => exact ⟨n + 1, some ⟨g7, 0, none⟩, c7, O4 ++ [(pa, (q0, q1))], true, hlt4, Nat.le_refl _, (by have q1 := HX.out.2.2.2.2.2.2; have q2 := HX.out.2.2.2.2.2.1; congr 1; simp; omega), rfl, by go_num, HX.out.2.2.2.1, by rw [HX.out.2.2.2.2.1], (by have q1 := HX.out.2.2.2.2.2.2; have q2 := HX.out.2.2.2.2.2.1; simp; omega), HX.out.1, HX.out.2.1, HX.out.2.2.1, by (repeat (first | (with_reducible exact SinceOf.refl _) | (with_reducible assumption) | (with_reducible refine SinceOf.alloc ?_ _) | (with_reducible refine SinceOf.drew ?_) | (with_reducible refine SinceOf.drewN ?_ _) | (with_reducible refine SinceOf.later ?_ _) | (with_reducible refine SinceOf.further ?_ _) | (with_reducible refine SinceOf.setCell ?_ (by first | exact Nat.le_refl _ | (simp; done) | omega | (simp; omega)) _)))⟩
                · obtain rfl : n = S := by omega
                  rw [← HW.out.2.2.2.2.1] at hO3
                  have HV := Lib.hid (And.intro hO3 (And.intro hoO (And.intro hrow hap8)))
                  rw [show s = ((s.1.1, s.1.2), (s.2.1, s.2.2)) from rfl] at T
                  change ∀ w, Gives _ _ #[sg s.1.1 s.1.2 s.2.1 s.2.2] w _ at T
                  clear hO3 hoO hrow hap8 hbo hr hsn HE
                  generalize s.1.1 = xa at a0 T
                  generalize s.1.2 = xb at a1 T
                  generalize s.2.1 = xc at a2 T
                  generalize s.2.2 = xd at a3 T
                  go_wp2_with fail
                  refine (T _).calls.mono ?_
                  rintro e _ ⟨rfl, u1, rfl⟩
                  go_wp2_with fail
                  go_roundg (E.length - (k + 1))
                  case measure => omega
                  case rel => exact ⟨k + 1, A7, c7, O3, hlt3, Nat.le_refl _, rfl, by go_num, by rw [HV.out.1, ← HW.out.2.2.2.1], by omega, HV.out.2.1.of (by (repeat (first | (with_reducible exact SinceOf.refl _) | (with_reducible assumption) | (with_reducible refine SinceOf.alloc ?_ _) | (with_reducible refine SinceOf.drew ?_) | (with_reducible refine SinceOf.drewN ?_ _) | (with_reducible refine SinceOf.later ?_ _) | (with_reducible refine SinceOf.further ?_ _) | (with_reducible refine SinceOf.setCell ?_ (by first | exact Nat.le_refl _ | (simp; done) | omega | (simp; omega)) _)))), HV.out.2.2.1.of (by (repeat (first | (with_reducible exact SinceOf.refl _) | (with_reducible assumption) | (with_reducible refine SinceOf.alloc ?_ _) | (with_reducible refine SinceOf.drew ?_) | (with_reducible refine SinceOf.drewN ?_ _) | (with_reducible refine SinceOf.later ?_ _) | (with_reducible refine SinceOf.further ?_ _) | (with_reducible refine SinceOf.setCell ?_ (by first | exact Nat.le_refl _ | (simp; done) | omega | (simp; omega)) _)))), HV.out.2.2.2, by (repeat (first | (with_reducible exact SinceOf.refl _) | (with_reducible assumption) | (with_reducible refine SinceOf.alloc ?_ _) | (with_reducible refine SinceOf.drew ?_) | (with_reducible refine SinceOf.drewN ?_ _) | (with_reducible refine SinceOf.later ?_ _) | (with_reducible refine SinceOf.further ?_ _) | (with_reducible refine SinceOf.setCell ?_ (by first | exact Nat.le_refl _ | (simp; done) | omega | (simp; omega)) _)))⟩
            · obtain rfl : k = E.length := by omega
              rw [List.take_length] at hO2
              have HW := Lib.hid (And.intro hoO hO2)
              have hE8 : E.length * 8000 ≤ 320000 := by omega
              clear hoO hrow hap8 hO2
              go_wp2_with fail
              go_roundg (X.length - (i + 1))
              case measure => omega
              case rel => exact ⟨i + 1, A6, c6, O2, hlt2, Nat.le_refl _, rfl, by go_num, by rw [HW.out.2]; exact HS.out.1.symm, by omega, HW.out.1, by (repeat (first | (with_reducible exact SinceOf.refl _) | (with_reducible assumption) | (with_reducible refine SinceOf.alloc ?_ _) | (with_reducible refine SinceOf.drew ?_) | (with_reducible refine SinceOf.drewN ?_ _) | (with_reducible refine SinceOf.later ?_ _) | (with_reducible refine SinceOf.further ?_ _) | (with_reducible refine SinceOf.setCell ?_ (by first | exact Nat.le_refl _ | (simp; done) | omega | (simp; omega)) _)))⟩
        · obtain rfl : i = X.length := by omega
          rw [List.take_of_length_le (by rw [vxs_len]; exact Nat.le_refl _)] at hO
          subst hO
          have HW := Lib.hid hoO
          have hOb : (onceF [] (vxs X)).length ≤ 40000000 := by omega
          clear hoO
          go_wp2_with fail
          go_returns
          exact ⟨A4, c4, rfl, HW.out, hOb, by (repeat (first | (with_reducible exact SinceOf.refl _) | (with_reducible assumption) | (with_reducible refine SinceOf.alloc ?_ _) | (with_reducible refine SinceOf.drew ?_) | (with_reducible refine SinceOf.drewN ?_ _) | (with_reducible refine SinceOf.later ?_ _) | (with_reducible refine SinceOf.further ?_ _) | (with_reducible refine SinceOf.setCell ?_ (by first | exact Nat.le_refl _ | (simp; done) | omega | (simp; omega)) _)))⟩
end Go.Proofs.YtkpnffokjpgalaaGreat
