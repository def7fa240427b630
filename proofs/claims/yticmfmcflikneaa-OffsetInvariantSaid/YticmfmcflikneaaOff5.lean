/- Layer 18: the reference's Canonical; rows of rings that a call made. -/
import Derived.Test.YticmfmcflikneaaOff3
import Derived.Test.YticmfmcflikneaaOffP2
namespace Go.Proofs.Yticmfmcflikneaa
open Go.RowKit Go.Sort
set_option linter.unusedVariables false
set_option linter.unusedSimpArgs false
attribute [local go_sem ↓] Go.wp_at_zero Go.wp_at_succ

set_option maxRecDepth 100000 in
set_option maxHeartbeats 16000000 in
theorem canonical10_any (A : Option Addr) (c : Nat) (r : List (Int × Int)) (w : World) (h : IsVecs w A c r) (h0 : 0 < r.length) (hlen : r.length ≤ 100000) :
    Calls Try.prog 103 #[.slice A r.length c] w fun e w' => ∃ A' c' k, e = .returned (.slice A' r.length c') ∧ k < r.length ∧ (∀ j, j < r.length → ¬ lexy (at0 r j) (at0 r k)) ∧ OwnVecs w.heap.size w' A' c' (rotL k r) ∧ SinceOf w w' := by
  have H := Lib.hid h
  clear h
  obtain ⟨i0, hi, hz0, hz1, hz2⟩ := info_parts infoVec
  have HI := Lib.hid (And.intro hi (And.intro hz0 (And.intro hz1 hz2)))
  clear hi hz0 hz1 hz2
  go_enter Try.func103, Try.ntmps103
  go_wp2_with fail
  go_loopg [3, 4] r.length (fun gas s3 s4 wr => ∃ k i : Nat, k < r.length ∧ i ≤ r.length ∧ r.length - i ≤ gas ∧ s3 = .int .i64 k ∧ s4 = .int .i64 i ∧ LaterOf w wr ∧ ∀ j, j < i → ¬ lexy (at0 r j) (at0 r k))
  case atStart => exact ⟨0, 0, h0, by omega, by omega, rfl, rfl, by (repeat (first | (with_reducible exact LaterOf.refl _) | (with_reducible refine LaterOf.alloc ?_ _) | (with_reducible refine LaterOf.drew ?_) | (with_reducible refine LaterOf.drewN ?_ _) | (with_reducible refine LaterOf.later ?_ _) | (with_reducible refine LaterOf.setCell ?_ (by first | exact Nat.le_refl _ | (simp; done) | omega | (simp; omega)) _))), fun j hj => by omega⟩
  case round =>
    obtain ⟨k, i, hk, hi, hgas, rfl, rfl, ⟨z, rfl⟩, hmin⟩ := hrel
    by_cases hlt : i < r.length
    · have hr0 := H.out.of (w' := z.wd) (by (repeat (first | (with_reducible exact SinceOf.refl _) | (with_reducible assumption) | (with_reducible refine SinceOf.alloc ?_ _) | (with_reducible refine SinceOf.drew ?_) | (with_reducible refine SinceOf.drewN ?_ _) | (with_reducible refine SinceOf.later ?_ _) | (with_reducible refine SinceOf.further ?_ _) | (with_reducible refine SinceOf.setCell ?_ (by first | exact Nat.le_refl _ | (simp; done) | omega | (simp; omega)) _))))
      obtain ⟨g, off, rfl, hr⟩ := hr0.at_ (by omega)
      have hO := hr.there
      have a0 := hr.v0 i hlt
      have a1 := hr.v1 i hlt
      have b0 := hr.v0 k hk
      have b1 := hr.v1 k hk
      have ea := at0_eq hlt
      have eb := at0_eq hk
      generalize r[i] = pa at *
      generalize r[k] = pb at *
      have hlx := lessB_lexy pa pb
      have L := refLess_any pa.1 pa.2 pb.1 pb.2
      obtain ⟨xa, ya⟩ := pa
      obtain ⟨xb, yb⟩ := pb
      simp only at a0 a1 b0 b1 hlx L
      cases hb : lessB xa ya xb yb
      · rw [hb] at L hlx
        have HM := Lib.hid (And.intro hmin (And.intro ea (And.intro eb hlx)))
        clear hmin ea eb hlx hb hr hr0
        go_wp2_with fail
        refine region_later (by kernel_rfl) (by kernel_rfl) ?_
        repeat (go_big_quiet_step ((with_reducible refine Gives.later (L _))))
        refine wpQuiet_nil ?_
        rintro _ ⟨z4, rfl⟩
        go_wp2_with fail
        go_roundg (r.length - (i + 1))
        case measure => omega
        case rel =>
          refine ⟨k, i + 1, hk, hlt, Nat.le_refl _, rfl, by go_num, by (repeat (first | (with_reducible exact LaterOf.refl _) | (with_reducible refine LaterOf.alloc ?_ _) | (with_reducible refine LaterOf.drew ?_) | (with_reducible refine LaterOf.drewN ?_ _) | (with_reducible refine LaterOf.later ?_ _) | (with_reducible refine LaterOf.setCell ?_ (by first | exact Nat.le_refl _ | (simp; done) | omega | (simp; omega)) _))), fun j hj => ?_⟩
          by_cases e : j = i
          · subst e
            rw [HM.out.2.1, HM.out.2.2.1]
            intro q
            have := HM.out.2.2.2.2 q
            cases this
          · exact HM.out.1 j (by omega)
      · rw [hb] at L hlx
        have HM := Lib.hid (And.intro hmin (And.intro ea (And.intro eb hlx)))
        clear hmin ea eb hlx hb hr hr0
        go_wp2_with fail
        refine region_later (by kernel_rfl) (by kernel_rfl) ?_
        repeat (go_big_quiet_step ((with_reducible refine Gives.later (L _))))
        refine wpQuiet_nil ?_
        rintro _ ⟨z4, rfl⟩
        go_wp2_with fail
        go_roundg (r.length - (i + 1))
        case measure => omega
        case rel =>
          have hl : lexy (at0 r i) (at0 r k) := by
            rw [HM.out.2.1, HM.out.2.2.1]
            exact HM.out.2.2.2.1 (by trivial)
          refine ⟨i, i + 1, hlt, hlt, Nat.le_refl _, rfl, by go_num, by (repeat (first | (with_reducible exact LaterOf.refl _) | (with_reducible refine LaterOf.alloc ?_ _) | (with_reducible refine LaterOf.drew ?_) | (with_reducible refine LaterOf.drewN ?_ _) | (with_reducible refine LaterOf.later ?_ _) | (with_reducible refine LaterOf.setCell ?_ (by first | exact Nat.le_refl _ | (simp; done) | omega | (simp; omega)) _))), fun j hj q => ?_⟩
          by_cases e : j = i
          · subst e
            exact q.asymm q
          · exact HM.out.1 j (by omega) (lexy_trans q hl)
    · obtain rfl : i = r.length := by omega
      have HM := Lib.hid hmin
      clear hmin hlt hi hgas
      go_wp2_with fail
      go_loopg [5, 6] r.length (fun gas s5 s6 wr => ∃ (i : Nat) (A2 : Option Addr) (c2 : Nat), i ≤ r.length ∧ r.length - i ≤ gas ∧ s5 = .slice A2 i c2 ∧ s6 = .int .i64 i ∧ OwnVecs w.heap.size wr A2 c2 ((rotL k r).take i) ∧ SinceOf w wr)
      case atStart => exact ⟨0, none, 0, by omega, by omega, rfl, rfl, Owns.nil _ _ _ _ _, by (repeat (first | (with_reducible exact SinceOf.refl _) | (with_reducible assumption) | (with_reducible refine SinceOf.alloc ?_ _) | (with_reducible refine SinceOf.drew ?_) | (with_reducible refine SinceOf.drewN ?_ _) | (with_reducible refine SinceOf.later ?_ _) | (with_reducible refine SinceOf.further ?_ _) | (with_reducible refine SinceOf.setCell ?_ (by first | exact Nat.le_refl _ | (simp; done) | omega | (simp; omega)) _)))⟩
      case round =>
        obtain ⟨i, A2, c2, hi, hgas, rfl, rfl, ho, ⟨y, rfl⟩⟩ := hrel
        have hys := y.size
        have hrl := rotL_length (r := r) (Nat.le_of_lt hk)
        by_cases hlt : i < r.length
        · have hq : (k + i) % r.length < r.length := Nat.mod_lt _ (by omega)
          have hr0 := H.out.of (w' := y.wd) (by (repeat (first | (with_reducible exact SinceOf.refl _) | (with_reducible assumption) | (with_reducible refine SinceOf.alloc ?_ _) | (with_reducible refine SinceOf.drew ?_) | (with_reducible refine SinceOf.drewN ?_ _) | (with_reducible refine SinceOf.later ?_ _) | (with_reducible refine SinceOf.further ?_ _) | (with_reducible refine SinceOf.setCell ?_ (by first | exact Nat.le_refl _ | (simp; done) | omega | (simp; omega)) _))))
          obtain ⟨g, off, rfl, hr⟩ := hr0.at_ (by omega)
          have hO := hr.there
          have p0 := hr.v0 _ hq
          have p1 := hr.v1 _ hq
          have hqt : Int.tmod ((k : Int) + (i : Int)) (r.length : Int) = (((k + i) % r.length : Nat) : Int) := by rw [Int.tmod_eq_emod_of_nonneg (by omega), Int.natCast_emod, Int.natCast_add]
          have htk : (rotL k r).take (i + 1) = (rotL k r).take i ++ [r[(k + i) % r.length]] := by
            rw [List.take_succ_eq_append_getElem (by omega), ← at0_eq (by omega), rot_at hk hlt, at0_eq hq]
          have hlr : ((rotL k r).take i).length = i := by rw [List.length_take]; omega
          have hrne : ¬ r = [] := fun e => by rw [e] at h0; simp at h0
          have w2 : IntKind.i64.wrap ((k : Int) + (i : Int)) = (k : Int) + (i : Int) := IntWalk.i64_in _ (by omega)
          generalize r[(k + i) % r.length] = pa at *
          generalize (k + i) % r.length = q at *
          obtain ⟨L, hL⟩ : ∃ L, L = (rotL k r).take i := ⟨_, rfl⟩
          rw [← hL] at ho htk hlr
          have HP := Lib.hid (And.intro ho (And.intro htk hlr))
          clear ho htk hlr hr hr0 hL hrl
          obtain ⟨px, py⟩ := pa
          simp only at p0 p1
          go_wp2_with (at_builtin; refine wpList_append_row rfl (.tmp 29) (.tmp 39) 25 rfl encV_len (by omega) encV_one i0 _ 16 Try.underlying25 HI.out.1 HI.out.2.1 HI.out.2.2.1 HI.out.2.2.2 rfl (l := L) (A := A2) (c := c2) (base := w.heap.size) (by rw [HP.out.2.2]; kernel_rfl) (HP.out.1.of (by (repeat (first | (with_reducible exact SinceOf.refl _) | (with_reducible assumption) | (with_reducible refine SinceOf.alloc ?_ _) | (with_reducible refine SinceOf.drew ?_) | (with_reducible refine SinceOf.drewN ?_ _) | (with_reducible refine SinceOf.later ?_ _) | (with_reducible refine SinceOf.further ?_ _) | (with_reducible refine SinceOf.setCell ?_ (by first | exact Nat.le_refl _ | (simp; done) | omega | (simp; omega)) _))))) (m := [(px, py)]) rfl (isRow_atV _ _ px py (by first | rfl | simp)) (by rw [HP.out.2.2]; unfold maxLen; simp; omega) (by rw [HP.out.2.2]; simp; omega) (by simp; omega) ?_; intro A3 c3 w4 ho3 hgr4 hb4)
          go_roundg (r.length - (i + 1))
          case measure => omega
          case rel =>
            refine ⟨i + 1, A3, c3, hlt, Nat.le_refl _, (by rw [HP.out.2.2]), by go_num, ?_, SinceOf.grown (by (repeat (first | (with_reducible exact SinceOf.refl _) | (with_reducible assumption) | (with_reducible refine SinceOf.alloc ?_ _) | (with_reducible refine SinceOf.drew ?_) | (with_reducible refine SinceOf.drewN ?_ _) | (with_reducible refine SinceOf.later ?_ _) | (with_reducible refine SinceOf.further ?_ _) | (with_reducible refine SinceOf.setCell ?_ (by first | exact Nat.le_refl _ | (simp; done) | omega | (simp; omega)) _)))) hgr4 (fun q hq => (HP.out.1.below q hq).1)⟩
            rw [HP.out.2.1]
            exact ho3
        · obtain rfl : i = r.length := by omega
          have HP := Lib.hid (show OwnVecs w.heap.size y.wd A2 c2 (rotL k r) by rw [List.take_of_length_le (by omega)] at ho; exact ho)
          clear ho hrl
          go_wp2_with fail
          go_returns
          exact ⟨A2, c2, k, rfl, hk, HM.out, HP.out, by (repeat (first | (with_reducible exact SinceOf.refl _) | (with_reducible assumption) | (with_reducible refine SinceOf.alloc ?_ _) | (with_reducible refine SinceOf.drew ?_) | (with_reducible refine SinceOf.drewN ?_ _) | (with_reducible refine SinceOf.later ?_ _) | (with_reducible refine SinceOf.further ?_ _) | (with_reducible refine SinceOf.setCell ?_ (by first | exact Nat.le_refl _ | (simp; done) | omega | (simp; omega)) _)))⟩
theorem infoRing : (Try.prog.info? 25).map (fun i => (i.zero, i.size, i.bytes)) = some (some (.slice none 0 0), 1, 24) := by kernel_rfl
/-- A row of rings that the call made; the rings lie elsewhere and have vertices. -/
structure OwnRings (base : Nat) (w : World) (A : Option Addr) (c : Nat) (Y : List RgR) : Prop where
  own : Owns encG 1 base 25 w A c Y
  all : ∀ y ∈ Y, IsVecs w y.A y.c y.xs ∧ y.xs.length < 4611686018427387904 ∧ 0 < y.xs.length ∧ ∀ b, blockOf y.A = some b → blockOf A ≠ some b
theorem OwnRings.nil (base : Nat) (w : World) : OwnRings base w none 0 [] := ⟨Owns.nil _ _ _ _ _, fun y hy => by cases hy⟩
theorem OwnRings.of {base : Nat} {w w' : World} {A : Option Addr} {c : Nat} {Y : List RgR} (h : OwnRings base w A c Y) (hs : SinceOf w w') : OwnRings base w' A c Y :=
  ⟨h.own.of hs, fun y hy => ⟨(h.all y hy).1.of hs, (h.all y hy).2⟩⟩
theorem IsRow.kept {α : Type} {enc : α → List Value} {k : Nat} {w w' : World} {A : Option Addr} {c : Nat} {l : List α} {row : Option Nat} (h : IsRow enc k w A c l) (hg : w.grownBy w' row) (hne : ∀ b, blockOf A = some b → row ≠ some b) : IsRow enc k w' A c l := by
  refine ⟨h.1, ?_⟩
  rcases h.2 with e | ⟨g, off, e, hr⟩
  · exact .inl e
  · exact .inr ⟨g, off, e, hr.grown hg (fun q => hne g (by rw [e]; rfl) q.symm)⟩
theorem IsRow.block_lt {α : Type} {enc : α → List Value} {k : Nat} {w : World} {A : Option Addr} {c : Nat} {l : List α} (h : IsRow enc k w A c l) (h0 : 0 < l.length) {b : Nat} (hb : blockOf A = some b) : b < w.heap.size := by
  obtain ⟨g, off, rfl, hr⟩ := h.at_ h0
  injection hb with hb
  subst hb
  exact hr.there.elim fun q => q.lt
theorem OwnRings.push {base : Nat} {w w' : World} {A A' : Option Addr} {c c' : Nat} {Y : List RgR} {x : RgR} (h : OwnRings base w A c Y) (hx : IsVecs w x.A x.c x.xs) (h0 : 0 < x.xs.length) (hl : x.xs.length < 4611686018427387904) (hne : ∀ b, blockOf x.A = some b → blockOf A ≠ some b)
    (ho : Owns encG 1 base 25 w' A' c' (Y ++ [x])) (hg : w.grownBy w' (blockOf A)) (hb : blockOf A' = blockOf A ∨ blockOf A' = some w.heap.size) : OwnRings base w' A' c' (Y ++ [x]) := by
  have one : ∀ y : RgR, IsVecs w y.A y.c y.xs → 0 < y.xs.length → (∀ b, blockOf y.A = some b → blockOf A ≠ some b) → IsVecs w' y.A y.c y.xs ∧ ∀ b, blockOf y.A = some b → blockOf A' ≠ some b := fun y hy hy0 hyn =>
    ⟨IsRow.kept hy hg hyn, fun b hyb e => by
      rcases hb with q | q
      · exact hyn b hyb (q ▸ e)
      · rw [q] at e
        injection e with e
        have := IsRow.block_lt hy hy0 hyb
        omega⟩
  refine ⟨ho, fun y hy => ?_⟩
  rcases List.mem_append.1 hy with hy | hy
  · obtain ⟨a, b, d, e⟩ := h.all y hy
    have := one y a d e
    exact ⟨this.1, b, d, this.2⟩
  · obtain rfl : y = x := by simpa using hy
    have := one y hx h0 hne
    exact ⟨this.1, hl, h0, this.2⟩
theorem OwnRings.rings {base : Nat} {w : World} {A : Option Addr} {c : Nat} {Y : List RgR} (h : OwnRings base w A c Y) (hl : Y.length < 4611686018427387904) : IsRings w A c Y := ⟨h.own.isRow encG_len, fun y hy => ⟨(h.all y hy).1, (h.all y hy).2.1⟩, hl⟩
theorem IsRings.nil (w : World) : IsRings w none 0 [] := ⟨IsRow.nil _ _ _, (fun y hy => by cases hy), by decide⟩
theorem isRow_atG (W : World) (g : Nat) (x : RgR) (hg : W.heap.size = g) : IsRow encG 1 (W.alloc (.cells #[.slice x.A x.xs.length x.c] 25)) (some ⟨g, 0, none⟩) 1 [x] := by
  subst hg
  have h : Owns encG 1 W.heap.size 25 (W.alloc (.cells #[.slice x.A x.xs.length x.c] 25)) (some ⟨W.heap.size, 0, none⟩) 1 [x] := World.ownsRow_lit W _ 1 (Nat.le_refl _) (by decide) rfl
  exact h.isRow encG_len
end Go.Proofs.Yticmfmcflikneaa
