/- Layer 15: all sums of two lists of rings, of the program and of the reference. -/
import Derived.Test.YtpbgimdbhgahkaaGreatMinkL1
import Derived.Test.YtpbgimdbhgahkaaGreatRings
namespace Go.Proofs.YtpbgimdbhgahkaaGreat
open Go.RowKit Go.Sort
set_option linter.unusedVariables false
set_option linter.unusedSimpArgs false
attribute [local go_sem ↓] Go.wp_at_zero Go.wp_at_succ

/-- What is left of the sums, behind those made. -/
def AllP : List (List Pt × List Pt) → List (List Pt) → List (List Pt) × Int → Prop
  | [], acc, out => out = (acc, 0)
  | (x, y) :: ps, acc, out => ∃ o, SumV x y o ∧ if o.2 = 0 then AllP ps (acc ++ [o.1]) out else out = ([], o.2)
theorem AllP.unique : ∀ {ps : List (List Pt × List Pt)} {acc : List (List Pt)} {a b : List (List Pt) × Int}, AllP ps acc a → AllP ps acc b → a = b
  | [], _, _, _, h, k => h.trans k.symm
  | (x, y) :: ps, acc, a, b, ⟨o, h1, h2⟩, ⟨o', k1, k2⟩ => by
    obtain rfl := h1.unique k1
    split at h2
    · rw [if_pos (by assumption)] at k2; exact AllP.unique h2 k2
    · rw [if_neg (by assumption)] at k2; exact h2.trans k2.symm
def pairsOf (rs ss : List (List Pt)) : List (List Pt × List Pt) := rs.flatMap (fun x => ss.map (fun y => (x, y)))
/-- Those from (i, k) on. -/
def pairsAt (rs ss : List (List Pt)) (i k : Nat) : List (List Pt × List Pt) := (ss.drop k).map (fun y => (at0R rs i, y)) ++ pairsOf (rs.drop (i + 1)) ss
where at0R (rs : List (List Pt)) (i : Nat) : List Pt := rs.getD i []
theorem pairs_row {rs ss : List (List Pt)} {i : Nat} (h : i < rs.length) : pairsOf (rs.drop i) ss = pairsAt rs ss i 0 := by
  unfold pairsAt pairsAt.at0R pairsOf
  rw [List.drop_eq_getElem_cons h, List.flatMap_cons, List.drop_zero]
  simp [List.getD_eq_getElem?_getD, h]
theorem pairs_next {rs ss : List (List Pt)} {i k : Nat} (hi : i < rs.length) (hk : k < ss.length) : pairsAt rs ss i k = (rs[i], ss[k]) :: pairsAt rs ss i (k + 1) := by
  unfold pairsAt pairsAt.at0R
  have e : rs.getD i [] = rs[i] := by simp [List.getD_eq_getElem?_getD, hi]
  rw [List.drop_eq_getElem_cons hk, List.map_cons, List.cons_append, e]
theorem pairs_end {rs ss : List (List Pt)} {i k : Nat} (hk : ss.length ≤ k) : pairsAt rs ss i k = pairsOf (rs.drop (i + 1)) ss := by
  unfold pairsAt
  rw [List.drop_of_length_le hk]; rfl
theorem vxs_at {X : List RgR} {i : Nat} (h : i < X.length) : (vxs X)[i]'(by rw [vxs_len]; exact h) = X[i].xs := by simp [vxs]
def AllRes (w w' : World) (X Y : List RgR) (B : Option Addr) (d : Nat) (Z : List RgR) (err : Int) : Prop := IsRings w' B d Z ∧ AllP (pairsOf (vxs X) (vxs Y)) [] (vxs Z, err) ∧ (∀ z ∈ Z, ∀ b, blockOf z.A = some b → w.heap.size ≤ b) ∧ (∀ b, blockOf B = some b → w.heap.size ≤ b) ∧ Z.length ≤ d ∧ SinceOf w w'
set_option maxRecDepth 100000 in
set_option maxHeartbeats 16000000 in
theorem minkAll_any (A B : Option Addr) (c d : Nat) (X Y : List RgR) (w : World) (h : IsRings w A c X) (h2 : IsRings w B d Y) (hX : X.length ≤ 1000) (hY : Y.length ≤ 1000) :
    Calls Tryz.prog 19 #[.slice A X.length c, .slice B Y.length d] w fun e w' => ∃ B' d' Z err, e = .returned (.tuple #[.slice B' Z.length d', .int .i64 err]) ∧ AllRes w w' X Y B' d' Z err := by
  have H := Lib.hid (And.intro h h2)
  clear h h2
  obtain ⟨i0, hi, hz0, hz1, hz2⟩ := info_parts infoRing
  have HI := Lib.hid (And.intro hi (And.intro hz0 (And.intro hz1 hz2)))
  clear hi hz0 hz1 hz2
  unfold AllRes
  go_enter Tryz.func19, Tryz.ntmps19
  go_wp2_with fail
  go_loopg [6, 15] X.length (fun gas s6 s15 wr => ∃ (i : Nat) (A2 : Option Addr) (c2 n2 : Nat) (Z : List RgR), i ≤ X.length ∧ X.length - i ≤ gas ∧ n2 = Z.length ∧ n2 = i * Y.length ∧ s6 = .slice A2 n2 c2 ∧ s15 = .int .i64 i ∧ OwnRings w.heap.size wr A2 c2 Z ∧ (∀ z ∈ Z, ∀ b, blockOf z.A = some b → w.heap.size ≤ b) ∧ (∀ out, AllP (pairsOf ((vxs X).drop i) (vxs Y)) (vxs Z) out → AllP (pairsOf (vxs X) (vxs Y)) [] out) ∧ SinceOf w wr)
  case atStart => exact ⟨0, none, 0, 0, [], by omega, by omega, rfl, by omega, rfl, rfl, OwnRings.nil _ _, (fun z hz => by cases hz), fun out ho => ho, by (repeat (first | (with_reducible exact SinceOf.refl _) | (with_reducible assumption) | (with_reducible refine SinceOf.alloc ?_ _) | (with_reducible refine SinceOf.drew ?_) | (with_reducible refine SinceOf.drewN ?_ _) | (with_reducible refine SinceOf.later ?_ _) | (with_reducible refine SinceOf.further ?_ _) | (with_reducible refine SinceOf.setCell ?_ (by first | exact Nat.le_refl _ | (simp; done) | omega | (simp; omega)) _)))⟩
  case round =>
    obtain ⟨i, A2, c2, n2, Z, hi, hgas, hn2, hni, rfl, rfl, ho, hf, hp, ⟨z, rfl⟩⟩ := hrel
    have hzs := z.size
    by_cases hlt : i < X.length
    · have hx0 := H.out.1.of (w' := z.wd) (by (repeat (first | (with_reducible exact SinceOf.refl _) | (with_reducible assumption) | (with_reducible refine SinceOf.alloc ?_ _) | (with_reducible refine SinceOf.drew ?_) | (with_reducible refine SinceOf.drewN ?_ _) | (with_reducible refine SinceOf.later ?_ _) | (with_reducible refine SinceOf.further ?_ _) | (with_reducible refine SinceOf.setCell ?_ (by first | exact Nat.le_refl _ | (simp; done) | omega | (simp; omega)) _))))
      obtain ⟨g, off, rfl, hr⟩ := hx0.row.at_ (by omega)
      have hO := hr.there
      have k0 := hr.g0 i hlt
      have him : i * Y.length ≤ 1000 * 1000 := Nat.mul_le_mul (by omega) hY
      have hsn : (i + 1) * Y.length = i * Y.length + Y.length := Nat.succ_mul _ _
      rw [pairs_row (by rw [vxs_len]; exact hlt)] at hp
      have HP := Lib.hid (And.intro ho (And.intro hn2 (And.intro hni (And.intro hf (And.intro hp hsn)))))
      have hn2b : n2 ≤ 1000 * 1000 := by omega
      clear hn2 hni ho hf hp hx0 hr him hsn
      obtain ⟨x, hx⟩ : ∃ x, x = X[i] := ⟨_, rfl⟩
      rw [← hx] at k0
      have HX := Lib.hid hx
      clear hx
      go_wp2_with fail
      go_loopg [6, 21] Y.length (fun gas2 s6 s21 wr => ∃ (k : Nat) (A3 : Option Addr) (c3 n3 : Nat) (Z3 : List RgR), k ≤ Y.length ∧ Y.length - k ≤ gas2 ∧ n3 = Z3.length ∧ n3 = n2 + k ∧ s6 = .slice A3 n3 c3 ∧ s21 = .int .i64 k ∧ OwnRings w.heap.size wr A3 c3 Z3 ∧ (∀ z ∈ Z3, ∀ b, blockOf z.A = some b → w.heap.size ≤ b) ∧ (∀ out, AllP (pairsAt (vxs X) (vxs Y) i k) (vxs Z3) out → AllP (pairsOf (vxs X) (vxs Y)) [] out) ∧ SinceOf w wr)
      case atStart => exact ⟨0, A2, c2, n2, Z, by omega, by omega, HP.out.2.1, by omega, rfl, rfl, HP.out.1.of (by (repeat (first | (with_reducible exact SinceOf.refl _) | (with_reducible assumption) | (with_reducible refine SinceOf.alloc ?_ _) | (with_reducible refine SinceOf.drew ?_) | (with_reducible refine SinceOf.drewN ?_ _) | (with_reducible refine SinceOf.later ?_ _) | (with_reducible refine SinceOf.further ?_ _) | (with_reducible refine SinceOf.setCell ?_ (by first | exact Nat.le_refl _ | (simp; done) | omega | (simp; omega)) _)))), HP.out.2.2.2.1, HP.out.2.2.2.2.1, by (repeat (first | (with_reducible exact SinceOf.refl _) | (with_reducible assumption) | (with_reducible refine SinceOf.alloc ?_ _) | (with_reducible refine SinceOf.drew ?_) | (with_reducible refine SinceOf.drewN ?_ _) | (with_reducible refine SinceOf.later ?_ _) | (with_reducible refine SinceOf.further ?_ _) | (with_reducible refine SinceOf.setCell ?_ (by first | exact Nat.le_refl _ | (simp; done) | omega | (simp; omega)) _)))⟩
      case round =>
        obtain ⟨k, A3, c3, n3, Z3, hk, hgas2, hn3, hnk, rfl, rfl, ho3, hf3, hp3, ⟨v, rfl⟩⟩ := hrel
        have hvs := v.size
        by_cases hlt2 : k < Y.length
        · have hy0 := H.out.2.of (w' := v.wd) (by (repeat (first | (with_reducible exact SinceOf.refl _) | (with_reducible assumption) | (with_reducible refine SinceOf.alloc ?_ _) | (with_reducible refine SinceOf.drew ?_) | (with_reducible refine SinceOf.drewN ?_ _) | (with_reducible refine SinceOf.later ?_ _) | (with_reducible refine SinceOf.further ?_ _) | (with_reducible refine SinceOf.setCell ?_ (by first | exact Nat.le_refl _ | (simp; done) | omega | (simp; omega)) _))))
          obtain ⟨g3, off3, rfl, hr3⟩ := hy0.row.at_ (by omega)
          have hO3 := hr3.there
          have m0 := hr3.g0 k hlt2
          rw [pairs_next (by rw [vxs_len]; exact hlt) (by rw [vxs_len]; exact hlt2), vxs_at hlt, vxs_at hlt2, ← HX.out] at hp3
          have hrx : IsRing v.wd x := (H.out.1.of (w' := v.wd) (by (repeat (first | (with_reducible exact SinceOf.refl _) | (with_reducible assumption) | (with_reducible refine SinceOf.alloc ?_ _) | (with_reducible refine SinceOf.drew ?_) | (with_reducible refine SinceOf.drewN ?_ _) | (with_reducible refine SinceOf.later ?_ _) | (with_reducible refine SinceOf.further ?_ _) | (with_reducible refine SinceOf.setCell ?_ (by first | exact Nat.le_refl _ | (simp; done) | omega | (simp; omega)) _))))).all x (by rw [HX.out]; exact List.getElem_mem hlt)
          have hry : IsRing v.wd Y[k] := hy0.all _ (List.getElem_mem hlt2)
          obtain ⟨y, hy⟩ : ∃ y, y = Y[k] := ⟨_, rfl⟩
          rw [← hy] at m0 hry hp3
          have SU := fun W (hW : SinceOf v.wd W) => sum_any x.A y.A x.c y.c x.xs y.xs W ((hrx.of hW).row) ((hry.of hW).row) hrx.cap hry.cap hrx.len hry.len
          have HQ := Lib.hid (And.intro ho3 (And.intro hn3 (And.intro hnk (And.intro hf3 hp3))))
          have hn3b : n3 ≤ 1000 * 1000 + 1000 := by omega
          clear ho3 hn3 hnk hf3 hp3 hrx hry hy hr3 hy0
          go_wp2_with fail
          refine (SU _ (by (repeat (first | (with_reducible exact SinceOf.refl _) | (with_reducible assumption) | (with_reducible refine SinceOf.alloc ?_ _) | (with_reducible refine SinceOf.drew ?_) | (with_reducible refine SinceOf.drewN ?_ _) | (with_reducible refine SinceOf.later ?_ _) | (with_reducible refine SinceOf.further ?_ _) | (with_reducible refine SinceOf.setCell ?_ (by first | exact Nat.le_refl _ | (simp; done) | omega | (simp; omega)) _))))).mono ?_
          rintro e _ ⟨A4, c4, o, rfl, hs4, hv4, hc4, hf4, ⟨x4, rfl⟩⟩
          have hx4 := x4.size
          by_cases h0 : o.2 = 0
          · have g0 : (o.2 != 0) = false := by simp [h0]
            have ok := (hs4.ok h0).1
            have hpos : 0 < o.1.length := by have := ok.1.1; omega
            have hl160 := ok.1.2.1
            have hR : IsRing x4.wd ⟨A4, c4, o.1⟩ := ⟨hv4, by show o.1.length < _; omega, hc4⟩
            have hlt4 : ∀ b, blockOf A4 = some b → b < x4.wd.heap.size := fun b hb => hv4.block_lt hpos hb
            have hnew : ∀ out, AllP (pairsAt (vxs X) (vxs Y) i (k + 1)) (vxs (Z3 ++ [⟨A4, c4, o.1⟩])) out → AllP (pairsOf (vxs X) (vxs Y)) [] out := fun out hout => by
              refine HQ.out.2.2.2.2 out ⟨o, hs4, ?_⟩
              rw [if_pos h0]
              have : vxs (Z3 ++ [⟨A4, c4, o.1⟩]) = vxs Z3 ++ [o.1] := by simp [vxs]
              rwa [this] at hout
            have HR := Lib.hid (And.intro hR (And.intro hlt4 (And.intro hnew hf4)))
            have hol : Z3.length = n3 := HQ.out.2.1.symm
            clear hs4 hv4 hf4 hR hlt4 hnew ok hpos h0 SU hc4
            obtain ⟨l4, hl4⟩ : ∃ l4, l4 = o.1 := ⟨_, rfl⟩
            rw [← hl4] at HR hl160 ⊢
            clear hl4
            generalize o.2 = er at *
            go_wp2_with (at_builtin; refine wpList_append_row rfl (.tmp 34) (.tmp 36) 22 rfl encG_len (by omega) encG_one i0 _ 24 Tryz.underlying22 HI.out.1 HI.out.2.1 HI.out.2.2.1 HI.out.2.2.2 rfl (l := Z3) (A := A3) (c := c3) (base := w.heap.size) (by rw [hol]; rfl) ((HQ.out.1.of (by (repeat (first | (with_reducible exact SinceOf.refl _) | (with_reducible assumption) | (with_reducible refine SinceOf.alloc ?_ _) | (with_reducible refine SinceOf.drew ?_) | (with_reducible refine SinceOf.drewN ?_ _) | (with_reducible refine SinceOf.later ?_ _) | (with_reducible refine SinceOf.further ?_ _) | (with_reducible refine SinceOf.setCell ?_ (by first | exact Nat.le_refl _ | (simp; done) | omega | (simp; omega)) _))))).own) (m := [⟨A4, c4, l4⟩]) rfl (isRow_atG _ _ ⟨A4, c4, l4⟩ (by first | rfl | simp)) (by rw [hol]; unfold maxLen; simp; omega) (by rw [hol]; simp; omega) (by simp; omega) ?_; intro A5 c5 w5 ho5 hgr5 hb5)
            have hpush := OwnRings.push ((HQ.out.1.of (w' := x4.wd) (by (repeat (first | (with_reducible exact SinceOf.refl _) | (with_reducible assumption) | (with_reducible refine SinceOf.alloc ?_ _) | (with_reducible refine SinceOf.drew ?_) | (with_reducible refine SinceOf.drewN ?_ _) | (with_reducible refine SinceOf.later ?_ _) | (with_reducible refine SinceOf.further ?_ _) | (with_reducible refine SinceOf.setCell ?_ (by first | exact Nat.le_refl _ | (simp; done) | omega | (simp; omega)) _))))).of (w' := x4.wd.alloc (.cells #[.slice A4 l4.length c4] 41)) (by (repeat (first | (with_reducible exact SinceOf.refl _) | (with_reducible assumption) | (with_reducible refine SinceOf.alloc ?_ _) | (with_reducible refine SinceOf.drew ?_) | (with_reducible refine SinceOf.drewN ?_ _) | (with_reducible refine SinceOf.later ?_ _) | (with_reducible refine SinceOf.further ?_ _) | (with_reducible refine SinceOf.setCell ?_ (by first | exact Nat.le_refl _ | (simp; done) | omega | (simp; omega)) _))))) (HR.out.1.of (w' := x4.wd.alloc (.cells #[.slice A4 l4.length c4] 41)) (by (repeat (first | (with_reducible exact SinceOf.refl _) | (with_reducible assumption) | (with_reducible refine SinceOf.alloc ?_ _) | (with_reducible refine SinceOf.drew ?_) | (with_reducible refine SinceOf.drewN ?_ _) | (with_reducible refine SinceOf.later ?_ _) | (with_reducible refine SinceOf.further ?_ _) | (with_reducible refine SinceOf.setCell ?_ (by first | exact Nat.le_refl _ | (simp; done) | omega | (simp; omega)) _))))) (fun b hb => ⟨by have := HR.out.2.1 b hb; simp; omega, fun e => by
              have q1 := (HQ.out.1.own.below b e).2
              have q2 := HR.out.2.2.2 b hb
              omega⟩) ho5 hgr5 hb5
            have HU := Lib.hid (And.intro hpush (SinceOf.grown (show SinceOf w (x4.wd.alloc (.cells #[.slice A4 l4.length c4] 41)) by (repeat (first | (with_reducible exact SinceOf.refl _) | (with_reducible assumption) | (with_reducible refine SinceOf.alloc ?_ _) | (with_reducible refine SinceOf.drew ?_) | (with_reducible refine SinceOf.drewN ?_ _) | (with_reducible refine SinceOf.later ?_ _) | (with_reducible refine SinceOf.further ?_ _) | (with_reducible refine SinceOf.setCell ?_ (by first | exact Nat.le_refl _ | (simp; done) | omega | (simp; omega)) _)))) hgr5 (fun q hq => (HQ.out.1.own.below q hq).1)))
            clear hpush ho5 hgr5 hb5
            go_roundg (Y.length - (k + 1))
            case measure => omega
            case rel =>
              refine ⟨k + 1, A5, c5, n3 + 1, Z3 ++ [⟨A4, c4, l4⟩], hlt2, Nat.le_refl _, by simp [hol], by have := HQ.out.2.2.1; omega, (by first | rfl | (rw [hol]; try rfl)), by go_num, HU.out.1, fun q hq b hb => ?_, HR.out.2.2.1, HU.out.2⟩
              rcases List.mem_append.1 hq with hq | hq
              · exact HQ.out.2.2.2.1 q hq b hb
              · obtain rfl : q = ⟨A4, c4, l4⟩ := by simpa using hq
                have := HR.out.2.2.2 b hb
                omega
          · have g0 : (o.2 != 0) = true := by simpa using h0
            have hnew : AllP (pairsOf (vxs X) (vxs Y)) [] ([], o.2) := HQ.out.2.2.2.2 _ ⟨o, hs4, by rw [if_neg h0]⟩
            have HR := Lib.hid hnew
            clear hs4 hv4 hf4 hnew h0 SU hc4
            generalize o.2 = er at *
            go_wp2_with fail
            go_returns
            exact ⟨none, 0, [], er, rfl, IsRings.nil _, HR.out, (fun q hq => by cases hq), (fun b hb => by cases hb), Nat.le_refl _, by (repeat (first | (with_reducible exact SinceOf.refl _) | (with_reducible assumption) | (with_reducible refine SinceOf.alloc ?_ _) | (with_reducible refine SinceOf.drew ?_) | (with_reducible refine SinceOf.drewN ?_ _) | (with_reducible refine SinceOf.later ?_ _) | (with_reducible refine SinceOf.further ?_ _) | (with_reducible refine SinceOf.setCell ?_ (by first | exact Nat.le_refl _ | (simp; done) | omega | (simp; omega)) _)))⟩
        · obtain rfl : k = Y.length := by omega
          rw [pairs_end (by rw [vxs_len]; exact Nat.le_refl _)] at hp3
          have HQ := Lib.hid (And.intro ho3 (And.intro hn3 (And.intro hnk (And.intro hf3 hp3))))
          clear ho3 hn3 hnk hf3 hp3
          go_wp2_with fail
          go_roundg (X.length - (i + 1))
          case measure => omega
          case rel =>
            have q1 := HQ.out.2.2.1
            have q2 := HP.out.2.2.1
            have q3 := HP.out.2.2.2.2.2
            exact ⟨i + 1, A3, c3, n3, Z3, hlt, Nat.le_refl _, HQ.out.2.1, by omega, rfl, by go_num, HQ.out.1, HQ.out.2.2.2.1, HQ.out.2.2.2.2, by (repeat (first | (with_reducible exact SinceOf.refl _) | (with_reducible assumption) | (with_reducible refine SinceOf.alloc ?_ _) | (with_reducible refine SinceOf.drew ?_) | (with_reducible refine SinceOf.drewN ?_ _) | (with_reducible refine SinceOf.later ?_ _) | (with_reducible refine SinceOf.further ?_ _) | (with_reducible refine SinceOf.setCell ?_ (by first | exact Nat.le_refl _ | (simp; done) | omega | (simp; omega)) _)))⟩
    · obtain rfl : i = X.length := by omega
      rw [List.drop_of_length_le (by rw [vxs_len]; exact Nat.le_refl _)] at hp
      have him : X.length * Y.length ≤ 1000 * 1000 := Nat.mul_le_mul hX hY
      have hfin := hp _ (rfl : AllP (pairsOf [] (vxs Y)) (vxs Z) (vxs Z, 0))
      have HP := Lib.hid (And.intro (ho.rings (by omega)) (And.intro hfin (And.intro hf (And.intro (fun b hb => (ho.own.below b hb).1) ho.own.le_cap))))
      clear ho hf hp hfin hni him
      go_wp2_with fail
      go_returns
      exact ⟨A2, c2, Z, 0, by rw [← hn2]; rfl, HP.out.1, HP.out.2.1, HP.out.2.2.1, HP.out.2.2.2.1, HP.out.2.2.2.2, by (repeat (first | (with_reducible exact SinceOf.refl _) | (with_reducible assumption) | (with_reducible refine SinceOf.alloc ?_ _) | (with_reducible refine SinceOf.drew ?_) | (with_reducible refine SinceOf.drewN ?_ _) | (with_reducible refine SinceOf.later ?_ _) | (with_reducible refine SinceOf.further ?_ _) | (with_reducible refine SinceOf.setCell ?_ (by first | exact Nat.le_refl _ | (simp; done) | omega | (simp; omega)) _)))⟩
end Go.Proofs.YtpbgimdbhgahkaaGreat
/- Layer 15: All of the reference, SameAll, the walk of MinkowskiAll. -/
namespace Go.Proofs.YtpbgimdbhgahkaaGreat
open Go.RowKit Go.Sort
set_option linter.unusedVariables false
set_option linter.unusedSimpArgs false
attribute [local go_sem ↓] Go.wp_at_zero Go.wp_at_succ

set_option maxRecDepth 100000 in
set_option maxHeartbeats 16000000 in
theorem refAll_any (A B : Option Addr) (c d : Nat) (X Y : List RgR) (w : World) (h : IsRings w A c X) (h2 : IsRings w B d Y) (hX : X.length ≤ 1000) (hY : Y.length ≤ 1000) :
    Calls Tryz.prog 21 #[.slice A X.length c, .slice B Y.length d] w fun e w' => ∃ B' d' Z err, e = .returned (.tuple #[.slice B' Z.length d', .int .i64 err]) ∧ AllRes w w' X Y B' d' Z err := by
  have H := Lib.hid (And.intro h h2)
  clear h h2
  obtain ⟨i0, hi, hz0, hz1, hz2⟩ := info_parts infoRing
  have HI := Lib.hid (And.intro hi (And.intro hz0 (And.intro hz1 hz2)))
  clear hi hz0 hz1 hz2
  unfold AllRes
  go_enter Tryz.func21, Tryz.ntmps21
  go_wp2_with fail
  go_loopg [6, 7] X.length (fun gas s6 s7 wr => ∃ (i : Nat) (A2 : Option Addr) (c2 n2 : Nat) (Z : List RgR), i ≤ X.length ∧ X.length - i ≤ gas ∧ n2 = Z.length ∧ n2 = i * Y.length ∧ s6 = .slice A2 n2 c2 ∧ s7 = .int .i64 i ∧ OwnRings w.heap.size wr A2 c2 Z ∧ (∀ z ∈ Z, ∀ b, blockOf z.A = some b → w.heap.size ≤ b) ∧ (∀ out, AllP (pairsOf ((vxs X).drop i) (vxs Y)) (vxs Z) out → AllP (pairsOf (vxs X) (vxs Y)) [] out) ∧ SinceOf w wr)
  case atStart => exact ⟨0, none, 0, 0, [], by omega, by omega, rfl, by omega, rfl, by go_num, OwnRings.nil _ _, (fun z hz => by cases hz), fun out ho => ho, by (repeat (first | (with_reducible exact SinceOf.refl _) | (with_reducible assumption) | (with_reducible refine SinceOf.alloc ?_ _) | (with_reducible refine SinceOf.drew ?_) | (with_reducible refine SinceOf.drewN ?_ _) | (with_reducible refine SinceOf.later ?_ _) | (with_reducible refine SinceOf.further ?_ _) | (with_reducible refine SinceOf.setCell ?_ (by first | exact Nat.le_refl _ | (simp; done) | omega | (simp; omega)) _)))⟩
  case round =>
    obtain ⟨i, A2, c2, n2, Z, hi, hgas, hn2, hni, rfl, rfl, ho, hf, hp, ⟨z, rfl⟩⟩ := hrel
    have hzs := z.size
    by_cases hlt : i < X.length
    · have him : i * Y.length ≤ 1000 * 1000 := Nat.mul_le_mul (by omega) hY
      have hsn : (i + 1) * Y.length = i * Y.length + Y.length := Nat.succ_mul _ _
      rw [pairs_row (by rw [vxs_len]; exact hlt)] at hp
      have HP := Lib.hid (And.intro ho (And.intro hn2 (And.intro hni (And.intro hf (And.intro hp hsn)))))
      have hn2b : n2 ≤ 1000 * 1000 := by omega
      clear hn2 hni ho hf hp him hsn
      go_wp2_with fail
      go_loopg [6, 8] Y.length (fun gas2 s6 s8 wr => ∃ (k : Nat) (A3 : Option Addr) (c3 n3 : Nat) (Z3 : List RgR), k ≤ Y.length ∧ Y.length - k ≤ gas2 ∧ n3 = Z3.length ∧ n3 = n2 + k ∧ s6 = .slice A3 n3 c3 ∧ s8 = .int .i64 k ∧ OwnRings w.heap.size wr A3 c3 Z3 ∧ (∀ z ∈ Z3, ∀ b, blockOf z.A = some b → w.heap.size ≤ b) ∧ (∀ out, AllP (pairsAt (vxs X) (vxs Y) i k) (vxs Z3) out → AllP (pairsOf (vxs X) (vxs Y)) [] out) ∧ SinceOf w wr)
      case atStart => exact ⟨0, A2, c2, n2, Z, by omega, by omega, HP.out.2.1, by omega, rfl, by go_num, HP.out.1.of (by (repeat (first | (with_reducible exact SinceOf.refl _) | (with_reducible assumption) | (with_reducible refine SinceOf.alloc ?_ _) | (with_reducible refine SinceOf.drew ?_) | (with_reducible refine SinceOf.drewN ?_ _) | (with_reducible refine SinceOf.later ?_ _) | (with_reducible refine SinceOf.further ?_ _) | (with_reducible refine SinceOf.setCell ?_ (by first | exact Nat.le_refl _ | (simp; done) | omega | (simp; omega)) _)))), HP.out.2.2.2.1, HP.out.2.2.2.2.1, by (repeat (first | (with_reducible exact SinceOf.refl _) | (with_reducible assumption) | (with_reducible refine SinceOf.alloc ?_ _) | (with_reducible refine SinceOf.drew ?_) | (with_reducible refine SinceOf.drewN ?_ _) | (with_reducible refine SinceOf.later ?_ _) | (with_reducible refine SinceOf.further ?_ _) | (with_reducible refine SinceOf.setCell ?_ (by first | exact Nat.le_refl _ | (simp; done) | omega | (simp; omega)) _)))⟩
      case round =>
        obtain ⟨k, A3, c3, n3, Z3, hk, hgas2, hn3, hnk, rfl, rfl, ho3, hf3, hp3, ⟨v, rfl⟩⟩ := hrel
        have hvs := v.size
        by_cases hlt2 : k < Y.length
        · have hx0 := H.out.1.of (w' := v.wd) (by (repeat (first | (with_reducible exact SinceOf.refl _) | (with_reducible assumption) | (with_reducible refine SinceOf.alloc ?_ _) | (with_reducible refine SinceOf.drew ?_) | (with_reducible refine SinceOf.drewN ?_ _) | (with_reducible refine SinceOf.later ?_ _) | (with_reducible refine SinceOf.further ?_ _) | (with_reducible refine SinceOf.setCell ?_ (by first | exact Nat.le_refl _ | (simp; done) | omega | (simp; omega)) _))))
          obtain ⟨g, off, rfl, hr⟩ := hx0.row.at_ (by omega)
          have hO := hr.there
          have k0 := hr.g0 i hlt
          have hy0 := H.out.2.of (w' := v.wd) (by (repeat (first | (with_reducible exact SinceOf.refl _) | (with_reducible assumption) | (with_reducible refine SinceOf.alloc ?_ _) | (with_reducible refine SinceOf.drew ?_) | (with_reducible refine SinceOf.drewN ?_ _) | (with_reducible refine SinceOf.later ?_ _) | (with_reducible refine SinceOf.further ?_ _) | (with_reducible refine SinceOf.setCell ?_ (by first | exact Nat.le_refl _ | (simp; done) | omega | (simp; omega)) _))))
          obtain ⟨g3, off3, rfl, hr3⟩ := hy0.row.at_ (by omega)
          have hO3 := hr3.there
          have m0 := hr3.g0 k hlt2
          rw [pairs_next (by rw [vxs_len]; exact hlt) (by rw [vxs_len]; exact hlt2), vxs_at hlt, vxs_at hlt2] at hp3
          have hrx : IsRing v.wd X[i] := hx0.all _ (List.getElem_mem hlt)
          have hry : IsRing v.wd Y[k] := hy0.all _ (List.getElem_mem hlt2)
          obtain ⟨x, hx⟩ : ∃ x, x = X[i] := ⟨_, rfl⟩
          obtain ⟨y, hy⟩ : ∃ y, y = Y[k] := ⟨_, rfl⟩
          rw [← hx] at k0 hrx hp3
          rw [← hy] at m0 hry hp3
          have SU := fun W (hW : SinceOf v.wd W) => refSum_any x.A y.A x.c y.c x.xs y.xs W ((hrx.of hW).row) ((hry.of hW).row) hrx.len hry.len
          have HQ := Lib.hid (And.intro ho3 (And.intro hn3 (And.intro hnk (And.intro hf3 hp3))))
          have hn3b : n3 ≤ 1000 * 1000 + 1000 := by omega
          clear ho3 hn3 hnk hf3 hp3 hrx hry hy hx hr hr3 hy0 hx0
          go_upto_region 8 with fail
          go_cut [9, 10] (fun s9 s10 wx => ∃ (A4 : Option Addr) (c4 : Nat) (o : List Pt × Int), s9 = .slice A4 o.1.length c4 ∧ s10 = .int .i64 o.2 ∧ SumV x.xs y.xs o ∧ IsVecs wx A4 c4 o.1 ∧ o.1.length ≤ c4 ∧ (∀ b, blockOf A4 = some b → v.wd.heap.size ≤ b) ∧ SinceOf v.wd wx)
          case first =>
            go_region_held3 (fun w' => w'.cell? ⟨g, off + i, none⟩ = some (.slice x.A x.xs.length x.c) ∧ w'.cell? ⟨g3, off3 + k, none⟩ = some (.slice y.A y.xs.length y.c)) ((simp [go_sem, *]))
              ((go_at_call 39; (with_reducible refine (SU _ (by (repeat (first | (with_reducible exact SinceOf.refl _) | (with_reducible assumption) | (with_reducible refine SinceOf.alloc ?_ _) | (with_reducible refine SinceOf.drew ?_) | (with_reducible refine SinceOf.drewN ?_ _) | (with_reducible refine SinceOf.later ?_ _) | (with_reducible refine SinceOf.further ?_ _) | (with_reducible refine SinceOf.setCell ?_ (by first | exact Nat.le_refl _ | (simp; done) | omega | (simp; omega)) _))))).mono ?_); rintro e _ ⟨A4, c4, o, rfl, hs4, hv4, hc4, hf4, ⟨x4, rfl⟩⟩))
            all_goals
              go_wp2_with fail
              go_meet
              exact ⟨A4, c4, o, by first | rfl | simp, by first | rfl | simp, hs4, hv4.of (by (repeat (first | (with_reducible exact SinceOf.refl _) | (with_reducible assumption) | (with_reducible refine SinceOf.alloc ?_ _) | (with_reducible refine SinceOf.drew ?_) | (with_reducible refine SinceOf.drewN ?_ _) | (with_reducible refine SinceOf.later ?_ _) | (with_reducible refine SinceOf.further ?_ _) | (with_reducible refine SinceOf.setCell ?_ (by first | exact Nat.le_refl _ | (simp; done) | omega | (simp; omega)) _)))), hc4, (fun b hb => by have := hf4 b hb; simp at this ⊢; omega), by (repeat (first | (with_reducible exact SinceOf.refl _) | (with_reducible assumption) | (with_reducible refine SinceOf.alloc ?_ _) | (with_reducible refine SinceOf.drew ?_) | (with_reducible refine SinceOf.drewN ?_ _) | (with_reducible refine SinceOf.later ?_ _) | (with_reducible refine SinceOf.further ?_ _) | (with_reducible refine SinceOf.setCell ?_ (by first | exact Nat.le_refl _ | (simp; done) | omega | (simp; omega)) _)))⟩
          case rest =>
            obtain ⟨A4, c4, o, rfl, rfl, hs4, hv4, hc4, hf4, ⟨x4, rfl⟩⟩ := hcut
            have hx4 := x4.size
            clear SU k0 m0
            by_cases h0 : o.2 = 0
            · have g0 : (o.2 != 0) = false := by simp [h0]
              have ok := (hs4.ok h0).1
              have hpos : 0 < o.1.length := by have := ok.1.1; omega
              have hl160 := ok.1.2.1
              have hR : IsRing x4.wd ⟨A4, c4, o.1⟩ := ⟨hv4, by show o.1.length < _; omega, hc4⟩
              have hlt4 : ∀ b, blockOf A4 = some b → b < x4.wd.heap.size := fun b hb => hv4.block_lt hpos hb
              have hnew : ∀ out, AllP (pairsAt (vxs X) (vxs Y) i (k + 1)) (vxs (Z3 ++ [⟨A4, c4, o.1⟩])) out → AllP (pairsOf (vxs X) (vxs Y)) [] out := fun out hout => by
                refine HQ.out.2.2.2.2 out ⟨o, hs4, ?_⟩
                rw [if_pos h0]
                have : vxs (Z3 ++ [⟨A4, c4, o.1⟩]) = vxs Z3 ++ [o.1] := by simp [vxs]
                rwa [this] at hout
              have HR := Lib.hid (And.intro hR (And.intro hlt4 (And.intro hnew hf4)))
              have hol : Z3.length = n3 := HQ.out.2.1.symm
              clear hs4 hv4 hf4 hR hlt4 hnew ok hpos h0 hc4
              obtain ⟨l4, hl4⟩ : ∃ l4, l4 = o.1 := ⟨_, rfl⟩
              rw [← hl4] at HR hl160 ⊢
              clear hl4
              generalize o.2 = er at *
              go_wp2_with (at_builtin; refine wpList_append_row rfl (.tmp 38) (.tmp 40) 22 rfl encG_len (by omega) encG_one i0 _ 24 Tryz.underlying22 HI.out.1 HI.out.2.1 HI.out.2.2.1 HI.out.2.2.2 rfl (l := Z3) (A := A3) (c := c3) (base := w.heap.size) (by rw [hol]; rfl) ((HQ.out.1.of (by (repeat (first | (with_reducible exact SinceOf.refl _) | (with_reducible assumption) | (with_reducible refine SinceOf.alloc ?_ _) | (with_reducible refine SinceOf.drew ?_) | (with_reducible refine SinceOf.drewN ?_ _) | (with_reducible refine SinceOf.later ?_ _) | (with_reducible refine SinceOf.further ?_ _) | (with_reducible refine SinceOf.setCell ?_ (by first | exact Nat.le_refl _ | (simp; done) | omega | (simp; omega)) _))))).own) (m := [⟨A4, c4, l4⟩]) rfl (isRow_atG _ _ ⟨A4, c4, l4⟩ (by first | rfl | simp)) (by rw [hol]; unfold maxLen; simp; omega) (by rw [hol]; simp; omega) (by simp; omega) ?_; intro A5 c5 w5 ho5 hgr5 hb5)
              have hpush := OwnRings.push ((HQ.out.1.of (w' := x4.wd) (by (repeat (first | (with_reducible exact SinceOf.refl _) | (with_reducible assumption) | (with_reducible refine SinceOf.alloc ?_ _) | (with_reducible refine SinceOf.drew ?_) | (with_reducible refine SinceOf.drewN ?_ _) | (with_reducible refine SinceOf.later ?_ _) | (with_reducible refine SinceOf.further ?_ _) | (with_reducible refine SinceOf.setCell ?_ (by first | exact Nat.le_refl _ | (simp; done) | omega | (simp; omega)) _))))).of (w' := x4.wd.alloc (.cells #[.slice A4 l4.length c4] 41)) (by (repeat (first | (with_reducible exact SinceOf.refl _) | (with_reducible assumption) | (with_reducible refine SinceOf.alloc ?_ _) | (with_reducible refine SinceOf.drew ?_) | (with_reducible refine SinceOf.drewN ?_ _) | (with_reducible refine SinceOf.later ?_ _) | (with_reducible refine SinceOf.further ?_ _) | (with_reducible refine SinceOf.setCell ?_ (by first | exact Nat.le_refl _ | (simp; done) | omega | (simp; omega)) _))))) (HR.out.1.of (w' := x4.wd.alloc (.cells #[.slice A4 l4.length c4] 41)) (by (repeat (first | (with_reducible exact SinceOf.refl _) | (with_reducible assumption) | (with_reducible refine SinceOf.alloc ?_ _) | (with_reducible refine SinceOf.drew ?_) | (with_reducible refine SinceOf.drewN ?_ _) | (with_reducible refine SinceOf.later ?_ _) | (with_reducible refine SinceOf.further ?_ _) | (with_reducible refine SinceOf.setCell ?_ (by first | exact Nat.le_refl _ | (simp; done) | omega | (simp; omega)) _))))) (fun b hb => ⟨by have := HR.out.2.1 b hb; simp; omega, fun e => by
                have q1 := (HQ.out.1.own.below b e).2
                have q2 := HR.out.2.2.2 b hb
                omega⟩) ho5 hgr5 hb5
              have HU := Lib.hid (And.intro hpush (SinceOf.grown (show SinceOf w (x4.wd.alloc (.cells #[.slice A4 l4.length c4] 41)) by (repeat (first | (with_reducible exact SinceOf.refl _) | (with_reducible assumption) | (with_reducible refine SinceOf.alloc ?_ _) | (with_reducible refine SinceOf.drew ?_) | (with_reducible refine SinceOf.drewN ?_ _) | (with_reducible refine SinceOf.later ?_ _) | (with_reducible refine SinceOf.further ?_ _) | (with_reducible refine SinceOf.setCell ?_ (by first | exact Nat.le_refl _ | (simp; done) | omega | (simp; omega)) _)))) hgr5 (fun q hq => (HQ.out.1.own.below q hq).1)))
              clear hpush ho5 hgr5 hb5
              go_roundg (Y.length - (k + 1))
              case measure => omega
              case rel =>
                refine ⟨k + 1, A5, c5, n3 + 1, Z3 ++ [⟨A4, c4, l4⟩], hlt2, Nat.le_refl _, by simp [hol], by have := HQ.out.2.2.1; omega, (by first | rfl | (rw [hol]; try rfl)), by go_num, HU.out.1, fun q hq b hb => ?_, HR.out.2.2.1, HU.out.2⟩
                rcases List.mem_append.1 hq with hq | hq
                · exact HQ.out.2.2.2.1 q hq b hb
                · obtain rfl : q = ⟨A4, c4, l4⟩ := by simpa using hq
                  have := HR.out.2.2.2 b hb
                  omega
            · have g0 : (o.2 != 0) = true := by simpa using h0
              have hnew : AllP (pairsOf (vxs X) (vxs Y)) [] ([], o.2) := HQ.out.2.2.2.2 _ ⟨o, hs4, by rw [if_neg h0]⟩
              have HR := Lib.hid hnew
              clear hs4 hv4 hf4 hnew h0 hc4
              generalize o.2 = er at *
              go_wp2_with fail
              go_returns
              exact ⟨none, 0, [], er, rfl, IsRings.nil _, HR.out, (fun q hq => by cases hq), (fun b hb => by cases hb), Nat.le_refl _, by (repeat (first | (with_reducible exact SinceOf.refl _) | (with_reducible assumption) | (with_reducible refine SinceOf.alloc ?_ _) | (with_reducible refine SinceOf.drew ?_) | (with_reducible refine SinceOf.drewN ?_ _) | (with_reducible refine SinceOf.later ?_ _) | (with_reducible refine SinceOf.further ?_ _) | (with_reducible refine SinceOf.setCell ?_ (by first | exact Nat.le_refl _ | (simp; done) | omega | (simp; omega)) _)))⟩
        · obtain rfl : k = Y.length := by omega
          rw [pairs_end (by rw [vxs_len]; exact Nat.le_refl _)] at hp3
          have HQ := Lib.hid (And.intro ho3 (And.intro hn3 (And.intro hnk (And.intro hf3 hp3))))
          clear ho3 hn3 hnk hf3 hp3
          go_wp2_with fail
          go_roundg (X.length - (i + 1))
          case measure => omega
          case rel =>
            have q1 := HQ.out.2.2.1
            have q2 := HP.out.2.2.1
            have q3 := HP.out.2.2.2.2.2
            exact ⟨i + 1, A3, c3, n3, Z3, hlt, Nat.le_refl _, HQ.out.2.1, by omega, rfl, by go_num, HQ.out.1, HQ.out.2.2.2.1, HQ.out.2.2.2.2, by (repeat (first | (with_reducible exact SinceOf.refl _) | (with_reducible assumption) | (with_reducible refine SinceOf.alloc ?_ _) | (with_reducible refine SinceOf.drew ?_) | (with_reducible refine SinceOf.drewN ?_ _) | (with_reducible refine SinceOf.later ?_ _) | (with_reducible refine SinceOf.further ?_ _) | (with_reducible refine SinceOf.setCell ?_ (by first | exact Nat.le_refl _ | (simp; done) | omega | (simp; omega)) _)))⟩
    · obtain rfl : i = X.length := by omega
      rw [List.drop_of_length_le (by rw [vxs_len]; exact Nat.le_refl _)] at hp
      have him : X.length * Y.length ≤ 1000 * 1000 := Nat.mul_le_mul hX hY
      have hfin := hp _ (rfl : AllP (pairsOf [] (vxs Y)) (vxs Z) (vxs Z, 0))
      have HP := Lib.hid (And.intro (ho.rings (by omega)) (And.intro hfin (And.intro hf (And.intro (fun b hb => (ho.own.below b hb).1) ho.own.le_cap))))
      clear ho hf hp hfin hni him
      go_wp2_with fail
      go_returns
      exact ⟨A2, c2, Z, 0, by rw [← hn2]; rfl, HP.out.1, HP.out.2.1, HP.out.2.2.1, HP.out.2.2.2.1, HP.out.2.2.2.2, by (repeat (first | (with_reducible exact SinceOf.refl _) | (with_reducible assumption) | (with_reducible refine SinceOf.alloc ?_ _) | (with_reducible refine SinceOf.drew ?_) | (with_reducible refine SinceOf.drewN ?_ _) | (with_reducible refine SinceOf.later ?_ _) | (with_reducible refine SinceOf.further ?_ _) | (with_reducible refine SinceOf.setCell ?_ (by first | exact Nat.le_refl _ | (simp; done) | omega | (simp; omega)) _)))⟩
theorem vxs_take {X : List RgR} {i : Nat} (h : i < X.length) : (vxs X).take (i + 1) = (vxs X).take i ++ [X[i].xs] := by
  rw [List.take_succ_eq_append_getElem (by rw [vxs_len]; exact h), vxs_at h]
set_option maxRecDepth 100000 in
set_option maxHeartbeats 8000000 in
theorem sameAll_any (A B : Option Addr) (c d : Nat) (X Y : List RgR) (w : World) (h : IsRings w A c X) (h2 : IsRings w B d Y) :
    Gives Tryz.prog 12 #[.slice A X.length c, .slice B Y.length d] w (.bool (decide (vxs X = vxs Y))) := by
  apply Gives.ret
  have HH := Lib.hid (And.intro h h2)
  have hb := h.len
  clear h h2
  by_cases hlen : X.length = Y.length
  · rw [← hlen]
    obtain ⟨res, hres⟩ : ∃ res, res = decide (vxs X = vxs Y) := ⟨_, rfl⟩
    rw [← hres]
    have HR := Lib.hid hres
    clear hres
    go_enter Tryz.func12, Tryz.ntmps12
    go_wp2_with fail
    go_loopg [5] X.length (fun gas s5 wr => ∃ i : Nat, i ≤ X.length ∧ X.length - i ≤ gas ∧ s5 = .int .i64 i ∧ LaterOf w wr ∧ (vxs X).take i = (vxs Y).take i)
    case atStart => exact ⟨0, by omega, by omega, by go_num, by (repeat (first | (with_reducible exact LaterOf.refl _) | (with_reducible refine LaterOf.alloc ?_ _) | (with_reducible refine LaterOf.drew ?_) | (with_reducible refine LaterOf.drewN ?_ _) | (with_reducible refine LaterOf.later ?_ _) | (with_reducible refine LaterOf.setCell ?_ (by first | exact Nat.le_refl _ | (simp; done) | omega | (simp; omega)) _))), rfl⟩
    case round =>
      obtain ⟨i, hi, hgas, rfl, ⟨z, rfl⟩, heq⟩ := hrel
      by_cases hlt : i < X.length
      · have hlt2 : i < Y.length := by omega
        have hx0 := HH.out.1.of (w' := z.wd) (LaterOf.since ⟨z, rfl⟩)
        obtain ⟨g, off, rfl, hr⟩ := hx0.row.at_ (by omega)
        have hO := hr.there
        have k0 := hr.g0 i hlt
        have hy0 := HH.out.2.of (w' := z.wd) (LaterOf.since ⟨z, rfl⟩)
        obtain ⟨g3, off3, rfl, hr3⟩ := hy0.row.at_ (by omega)
        have hO3 := hr3.there
        have m0 := hr3.g0 i hlt2
        have hrx : IsRing z.wd X[i] := hx0.all _ (List.getElem_mem hlt)
        have hry : IsRing z.wd Y[i] := hy0.all _ (List.getElem_mem hlt2)
        have t1 := vxs_take hlt
        have t2 := vxs_take hlt2
        obtain ⟨x, hx⟩ : ∃ x, x = X[i] := ⟨_, rfl⟩
        obtain ⟨y, hy⟩ : ∃ y, y = Y[i] := ⟨_, rfl⟩
        rw [← hx] at k0 hrx t1
        rw [← hy] at m0 hry t2
        have SM := fun W (hW : SinceOf z.wd W) => same08_any x.A y.A x.c y.c x.xs y.xs W (hrx.of hW).row (hry.of hW).row hrx.len hry.len
        have HT := Lib.hid (And.intro heq (And.intro t1 t2))
        obtain ⟨bv, hbv⟩ : ∃ bv, bv = decide (x.xs = y.xs) := ⟨_, rfl⟩
        rw [← hbv] at SM
        have HB := Lib.hid hbv
        clear heq t1 t2 hbv hrx hry hx hy hr hr3 hx0 hy0
        go_upto_region 6 with fail
        go_cut [26] (fun s26 wx => s26 = .bool (!bv) ∧ LaterOf z.wd wx)
        case first =>
          refine region_later (by kernel_rfl) (by kernel_rfl) ?_
          repeat (go_big_quiet_step ((with_reducible refine Gives.later (SM _ (by (repeat (first | (with_reducible exact SinceOf.refl _) | (with_reducible assumption) | (with_reducible refine SinceOf.alloc ?_ _) | (with_reducible refine SinceOf.drew ?_) | (with_reducible refine SinceOf.drewN ?_ _) | (with_reducible refine SinceOf.later ?_ _) | (with_reducible refine SinceOf.further ?_ _) | (with_reducible refine SinceOf.setCell ?_ (by first | exact Nat.le_refl _ | (simp; done) | omega | (simp; omega)) _))))))))
          refine wpQuiet_nil ?_
          rintro _ ⟨z4, rfl⟩
          go_wp2_with fail
          go_meet
          exact ⟨rfl, by (repeat (first | (with_reducible exact LaterOf.refl _) | (with_reducible refine LaterOf.alloc ?_ _) | (with_reducible refine LaterOf.drew ?_) | (with_reducible refine LaterOf.drewN ?_ _) | (with_reducible refine LaterOf.later ?_ _) | (with_reducible refine LaterOf.setCell ?_ (by first | exact Nat.le_refl _ | (simp; done) | omega | (simp; omega)) _)))⟩
        case rest =>
          obtain ⟨rfl, ⟨z4, rfl⟩⟩ := hcut
          clear SM k0 m0
          cases bv
          · have hno : res = false := by
              have q := of_decide_eq_false HB.out.symm
              rw [HR.out, decide_eq_false_iff_not]
              intro e
              have q1 := HT.out.2.1
              rw [e, HT.out.2.2] at q1
              exact q (by simpa using (List.append_inj_right' q1 rfl).symm)
            subst hno
            clear HR
            go_wp2_with fail
            go_returns
            exact ⟨rfl, by (repeat (first | (with_reducible exact LaterOf.refl _) | (with_reducible refine LaterOf.alloc ?_ _) | (with_reducible refine LaterOf.drew ?_) | (with_reducible refine LaterOf.drewN ?_ _) | (with_reducible refine LaterOf.later ?_ _) | (with_reducible refine LaterOf.setCell ?_ (by first | exact Nat.le_refl _ | (simp; done) | omega | (simp; omega)) _)))⟩
          · have hyes := of_decide_eq_true HB.out.symm
            have hnx : (vxs X).take (i + 1) = (vxs Y).take (i + 1) := by rw [HT.out.2.1, HT.out.2.2, HT.out.1, hyes]
            have HN := Lib.hid hnx
            clear hnx hyes
            go_wp2_with fail
            go_roundg (X.length - (i + 1))
            case measure => omega
            case rel => exact ⟨i + 1, hlt, Nat.le_refl _, by go_num, by (repeat (first | (with_reducible exact LaterOf.refl _) | (with_reducible refine LaterOf.alloc ?_ _) | (with_reducible refine LaterOf.drew ?_) | (with_reducible refine LaterOf.drewN ?_ _) | (with_reducible refine LaterOf.later ?_ _) | (with_reducible refine LaterOf.setCell ?_ (by first | exact Nat.le_refl _ | (simp; done) | omega | (simp; omega)) _))), HN.out⟩
      · obtain rfl : i = X.length := by omega
        have hyes : res = true := by
          rw [List.take_of_length_le (by rw [vxs_len]; exact Nat.le_refl _), List.take_of_length_le (by rw [vxs_len]; omega)] at heq
          rw [HR.out, decide_eq_true_iff]; exact heq
        subst hyes
        clear HR heq
        go_wp2_with fail
        go_returns
        exact ⟨rfl, by (repeat (first | (with_reducible exact LaterOf.refl _) | (with_reducible refine LaterOf.alloc ?_ _) | (with_reducible refine LaterOf.drew ?_) | (with_reducible refine LaterOf.drewN ?_ _) | (with_reducible refine LaterOf.later ?_ _) | (with_reducible refine LaterOf.setCell ?_ (by first | exact Nat.le_refl _ | (simp; done) | omega | (simp; omega)) _)))⟩
  · have g0 : ((X.length : Int) != (Y.length : Int)) = true := by simp; omega
    have hne : vxs X ≠ vxs Y := fun e => hlen (by have := congrArg List.length e; rw [vxs_len, vxs_len] at this; exact this)
    rw [decide_eq_false hne]
    clear hne
    go_enter Tryz.func12, Tryz.ntmps12
    go_wp2_with fail
    go_returns
    exact ⟨rfl, by (repeat (first | (with_reducible exact LaterOf.refl _) | (with_reducible refine LaterOf.alloc ?_ _) | (with_reducible refine LaterOf.drew ?_) | (with_reducible refine LaterOf.drewN ?_ _) | (with_reducible refine LaterOf.later ?_ _) | (with_reducible refine LaterOf.setCell ?_ (by first | exact Nat.le_refl _ | (simp; done) | omega | (simp; omega)) _)))⟩
end Go.Proofs.YtpbgimdbhgahkaaGreat
/- Layer 15: the walk of MinkowskiAll. -/
namespace Go.Proofs.YtpbgimdbhgahkaaGreat
open Go.RowKit Go.Sort
set_option linter.unusedVariables false
set_option linter.unusedSimpArgs false
attribute [local go_sem ↓] Go.wp_at_zero Go.wp_at_succ

end Go.Proofs.YtpbgimdbhgahkaaGreat
