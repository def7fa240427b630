/- Layer 10: Hull of the program. -/
import Derived.Test.YticmfmcflikneaaHull8
namespace Go.Proofs.Yticmfmcflikneaa
open Go.RowKit Go.Sort
set_option linter.unusedVariables false
attribute [local go_sem ↓] Go.wp_at_zero Go.wp_at_succ

theorem LiveV.kept {base : Nat} {w w' : World} {A : Option Addr} {c : Nat} {l : List (Int × Int)} {row : Option Nat} (h : LiveV base w A c l) (hg : w.grownBy w' row) (hne : ∀ b, blockOf A = some b → some b ≠ row) : LiveV base w' A c l := by
  refine ⟨fun b hb => ⟨(h.own b hb).1, Nat.lt_of_lt_of_le (h.own b hb).2 hg.size⟩, h.nil, ?_⟩
  rcases h.row with h0 | ⟨g, e, hl, hc⟩
  · exact .inl h0
  · subst e
    have hb := hg.block g (h.own g rfl).2 (hne g rfl)
    refine .inr ⟨g, rfl, ⟨⟨fun i hi j u hu => (World.cell?_of_block hb).trans (hl.row.cells i hi j u hu), ⟨⟨Nat.lt_of_lt_of_le (h.own g rfl).2 hg.size⟩⟩⟩, fun j hj => (World.frozen?_of_block hb).trans (hl.free j hj)⟩, hc⟩
theorem popC_len {p : Pt} : ∀ {s : List Pt}, (popC p s).length ≤ s.length
  | [] => Nat.le_refl _
  | [_] => Nat.le_refl _
  | b :: a :: r => by
    unfold popC
    split
    · exact Nat.le_trans popC_len (by simp)
    · exact Nat.le_refl _
theorem chainC_len : ∀ (pts s : List Pt), (chainC s pts).length ≤ s.length + pts.length
  | [], s => by simp [chainC]
  | p :: r, s => by
    unfold chainC
    have h1 := chainC_len r (p :: popC p s)
    have h2 : (popC p s).length ≤ s.length := popC_len
    simp only [List.length_cons] at h1 ⊢
    omega
theorem lowC_len (pts : List Pt) : (lowC pts).length ≤ pts.length := by
  unfold lowC
  have := chainC_len pts []
  simpa using this
theorem compactV_le (l : List (Int × Int)) : (compactV l).length ≤ l.length := by
  unfold compactV Lib.compactUpTo; rw [List.length_map]; exact Nat.le_trans (List.length_filter_le _ _) (by simp)
theorem xpts_len (l : List (Int × Int)) : (xpts l).length ≤ l.length := by
  unfold xpts
  exact Nat.le_trans (compactV_le _) (by rw [xsort_length]; exact Nat.le_refl _)
theorem least_at (r : List Pt) : ∀ n, 0 < n → n ≤ r.length → ∃ k, k < n ∧ ∀ j, j < n → ¬ lexy (at0 r j) (at0 r k)
  | 0, h, _ => absurd h (by omega)
  | 1, _, _ => ⟨0, by omega, fun j hj h => by
      have : j = 0 := by omega
      subst this; exact h.asymm h⟩
  | n + 2, _, hn => by
    obtain ⟨k, hk, ha⟩ := least_at r (n + 1) (by omega) (by omega)
    by_cases h : lexy (at0 r (n + 1)) (at0 r k)
    · refine ⟨n + 1, by omega, fun j hj hl => ?_⟩
      by_cases e : j = n + 1
      · subst e; exact hl.asymm hl
      · exact ha j (by omega) (lexy_trans hl h)
    · refine ⟨k, by omega, fun j hj hl => ?_⟩
      by_cases e : j = n + 1
      · subst e; exact h hl
      · exact ha j (by omega) hl
set_option maxRecDepth 100000 in
set_option maxHeartbeats 16000000 in
/-- The slice's block is new. -/
def FreshA (w : World) (A : Option Addr) : Prop := ∀ b, blockOf A = some b → w.heap.size ≤ b
theorem FreshA.none (w : World) : FreshA w none := fun b h => by cases h
theorem FreshA.own {α : Type} {enc : α → List Value} {k base : Nat} {e : TypeId} {w W : World} {A : Option Addr} {c : Nat} {l : List α} (h : Owns enc k base e W A c l) (hb : w.heap.size ≤ base) : FreshA w A := fun b hb' => Nat.le_trans hb (h.below b hb').1
set_option maxRecDepth 100000 in
set_option maxHeartbeats 16000000 in
theorem hull_new (A : Option Addr) (c : Nat) (l : List (Int × Int)) (w : World) (h : IsVecs w A c l) (hlen : l.length < 4611686018427387904) :
    Calls Try.prog 22 #[.slice A l.length c] w fun e w' => ∃ A' c' r err, e = .returned (.tuple #[.slice A' r.length c', .int .i64 err]) ∧ IsVecs w' A' c' r ∧ HullRes l r err ∧ SinceOf w w' ∧ FreshA w A' := by
  have HL := Lib.hid h
  clear h
  by_cases hn : 400 < l.length
  · go_enter Try.func22, Try.ntmps22
    go_wp2_with fail
    go_returns
    exact ⟨none, 0, [], 9, rfl, IsRow.nil _ _ _, .inl ⟨hn, rfl, rfl⟩, by (repeat (first | (with_reducible exact SinceOf.refl _) | (with_reducible assumption) | (with_reducible refine SinceOf.alloc ?_ _) | (with_reducible refine SinceOf.drew ?_) | (with_reducible refine SinceOf.drewN ?_ _) | (with_reducible refine SinceOf.later ?_ _) | (with_reducible refine SinceOf.further ?_ _) | (with_reducible refine SinceOf.setCell ?_ (by first | exact Nat.le_refl _ | (simp; done) | omega | (simp; omega)) _))), FreshA.none _⟩
  have hn' : l.length ≤ 400 := by omega
  have N := fun W (h : IsVecs W A c l) => near_any A c l W h (by omega)
  by_cases hf : l.any farB = true
  · rw [hf] at N
    have HF := Lib.hid hf
    clear hf
    go_enter Try.func22, Try.ntmps22
    go_wp2_with fail
    refine (N _ HL.out).calls.mono ?_
    rintro e _ ⟨rfl, x1, rfl⟩
    go_wp2_with fail
    go_returns
    exact ⟨none, 0, [], 2, rfl, IsRow.nil _ _ _, .inr (.inl ⟨hn', HF.out, rfl, rfl⟩), by (repeat (first | (with_reducible exact SinceOf.refl _) | (with_reducible assumption) | (with_reducible refine SinceOf.alloc ?_ _) | (with_reducible refine SinceOf.drew ?_) | (with_reducible refine SinceOf.drewN ?_ _) | (with_reducible refine SinceOf.later ?_ _) | (with_reducible refine SinceOf.further ?_ _) | (with_reducible refine SinceOf.setCell ?_ (by first | exact Nat.le_refl _ | (simp; done) | omega | (simp; omega)) _))), FreshA.none _⟩
  have hf' : l.any farB = false := by simpa using hf
  rw [hf'] at N
  have HF := Lib.hid hf'
  clear hf hf'
  obtain ⟨i0, hi, hz0, hz1, hz2⟩ := info_parts infoVec
  have HI := Lib.hid (And.intro hi (And.intro hz0 (And.intro hz1 hz2)))
  clear hi hz0 hz1 hz2
  have hxl := xsort_length l
  have hpl := xpts_len l
  go_enter Try.func22, Try.ntmps22
  go_wp2_with fail
  refine (N _ HL.out).calls.mono ?_
  rintro e _ ⟨rfl, x1, rfl⟩
  go_wp2_with fail
  refine (values_any A c l _).mono ?_
  rintro e _ ⟨b, rfl, hb, hbO, ⟨x2, rfl⟩⟩
  have hx1 := x1.size
  have hx2 := x2.size
  go_wp2_with fail
  refine (sortedX_any A c l b _ (HL.out.of (by (repeat (first | (with_reducible exact SinceOf.refl _) | (with_reducible assumption) | (with_reducible refine SinceOf.alloc ?_ _) | (with_reducible refine SinceOf.drew ?_) | (with_reducible refine SinceOf.drewN ?_ _) | (with_reducible refine SinceOf.later ?_ _) | (with_reducible refine SinceOf.further ?_ _) | (with_reducible refine SinceOf.setCell ?_ (by first | exact Nat.le_refl _ | (simp; done) | omega | (simp; omega)) _))))) (by omega) hb hbO).mono ?_
  rintro e _ ⟨A3, c3, rfl, hl3, ⟨x3, rfl⟩⟩
  have hx3 := x3.size
  have hs3 : SinceOf w x3.wd := by (repeat (first | (with_reducible exact SinceOf.refl _) | (with_reducible assumption) | (with_reducible refine SinceOf.alloc ?_ _) | (with_reducible refine SinceOf.drew ?_) | (with_reducible refine SinceOf.drewN ?_ _) | (with_reducible refine SinceOf.later ?_ _) | (with_reducible refine SinceOf.further ?_ _) | (with_reducible refine SinceOf.setCell ?_ (by first | exact Nat.le_refl _ | (simp; done) | omega | (simp; omega)) _)))
  obtain ⟨v3, hv3⟩ := hs3
  clear hb hbO
  replace hl3 : LiveV w.heap.size v3.wd A3 c3 (xsort l) := by rw [← hv3]; exact ⟨fun b hb => ⟨by have := (hl3.own b hb).1; omega, (hl3.own b hb).2⟩, hl3.nil, hl3.row⟩
  rw [hv3] at hx3 ⊢
  clear hv3 hx1 hx2 hx3
  have HL3 := Lib.hid hl3
  clear hl3
  have hgw := v3.size
  go_wp2_with fail
  have C := compactX_any A3 w.heap.size c3 (xsort l) (v3.wd.alloc (.cells #[.slice A3 l.length c3] 22)) (HL3.out.of (by (repeat (first | (with_reducible exact SinceOf.refl _) | (with_reducible assumption) | (with_reducible refine SinceOf.alloc ?_ _) | (with_reducible refine SinceOf.drew ?_) | (with_reducible refine SinceOf.drewN ?_ _) | (with_reducible refine SinceOf.later ?_ _) | (with_reducible refine SinceOf.further ?_ _) | (with_reducible refine SinceOf.setCell ?_ (by first | exact Nat.le_refl _ | (simp; done) | omega | (simp; omega)) _))))) (by omega)
  rw [hxl] at C
  refine C.mono ?_
  rintro e w4 ⟨rfl, hl4, hg4⟩
  clear C
  have hne4 : ∀ b, blockOf A3 = some b → b < v3.wd.heap.size := fun b hb => (HL3.out.own b hb).2
  have hng4 : some v3.wd.heap.size ≠ blockOf A3 := fun e => by have := hne4 _ e.symm; omega
  have hs4 : SinceOf w w4 := SinceOf.grown (by (repeat (first | (with_reducible exact SinceOf.refl _) | (with_reducible assumption) | (with_reducible refine SinceOf.alloc ?_ _) | (with_reducible refine SinceOf.drew ?_) | (with_reducible refine SinceOf.drewN ?_ _) | (with_reducible refine SinceOf.later ?_ _) | (with_reducible refine SinceOf.further ?_ _) | (with_reducible refine SinceOf.setCell ?_ (by first | exact Nat.le_refl _ | (simp; done) | omega | (simp; omega)) _)))) hg4 (fun b hb => (HL3.out.own b hb).1)
  have k4 : w4.cell? ⟨v3.wd.heap.size, 0, none⟩ = some (.slice A3 l.length c3) := hg4.cell (by simp [go_sem]) hng4
  have f4 : w4.frozen? ⟨v3.wd.heap.size, 0, none⟩ = false := (World.frozen?_of_block (hg4.block v3.wd.heap.size (by simp) hng4)).trans (by simp [go_sem])
  have hz4 := hg4.size
  simp only [World.size_alloc] at hz4
  have eC : (compactV (xsort l)).length = (xpts l).length := rfl
  rw [eC]
  replace hl4 : LiveV w.heap.size w4 A3 c3 (xpts l) := hl4
  generalize v3.wd.heap.size = gp at *
  obtain ⟨v4, rfl⟩ := hs4
  have hO4 : Nonempty (Old v4.wd gp) := ⟨⟨by omega⟩⟩
  have H4 := Lib.hid (And.intro hl4 hne4)
  clear hl4 hne4 hg4 eC hng4
  obtain ⟨pts, hpts⟩ : ∃ pts, pts = xpts l := ⟨_, rfl⟩
  have HP := Lib.hid hpts
  rw [← hpts] at hpl H4 ⊢
  clear hpts
  go_wp2_with fail
  have hne5 : blockOf A3 ≠ some gp := fun e => by have := H4.out.2 _ e; omega
  have hfar : pts.any farB = false := by
    rw [HP.out]
    refine List.any_eq_false.2 fun x hx => ?_
    have := List.any_eq_false.1 HF.out x ((xpts_strict l).2 x |>.1 hx)
    exact this
  have hl5 : LiveV w.heap.size (v4.wd.setCell ⟨gp, 0, none⟩ (.slice A3 pts.length c3)) A3 c3 pts := H4.out.1.kept (grownBy_setCell (p := ⟨gp, 0, none⟩) rfl _) (fun b hb e => hne5 (hb.trans e))
  refine (chain_any gp A3 c3 pts _ (World.cell?_setCell_same _ _ _ k4) inferInstance hl5.isRow hfar (by omega)).mono ?_
  rintro e _ ⟨A5, c5, he, ho5, ⟨x5, rfl⟩⟩
  subst he
  have hx5 := x5.size
  have hws : (v4.wd.setCell ⟨gp, 0, none⟩ (.slice A3 pts.length c3)).heap.size = v4.wd.heap.size := World.size_setCell _ _ _
  rw [hws] at ho5 hx5
  have k5 : x5.wd.cell? ⟨gp, 0, none⟩ = some (.slice A3 pts.length c3) := by rw [Since.cell]; exact World.cell?_setCell_same _ _ _ k4
  have hl6 := hl5.of ⟨x5, rfl⟩
  have hs5 : SinceOf w x5.wd := SinceOf.further (SinceOf.setCell ⟨v4, rfl⟩ (by omega) _) x5
  obtain ⟨v5, hv5⟩ := hs5
  rw [hv5] at k5 hl6 hx5 ho5 ⊢
  have H5 := Lib.hid (And.intro hl6 ho5)
  have hO5 : Nonempty (Old v5.wd gp) := ⟨⟨by omega⟩⟩
  have hv4 := v4.size
  generalize v4.wd.heap.size = B5 at *
  clear hv5 ho5 hl6 hl5 k4 f4 hO4 hws
  clear x5
  go_wp2_with fail
  refine (reverseX_any A3 w.heap.size c3 pts v5.wd H5.out.1 (by omega)).mono ?_
  rintro e w6 ⟨rfl, hl6, hg6⟩
  have hng6 : some gp ≠ blockOf A3 := fun e => hne5 e.symm
  have k6 : w6.cell? ⟨gp, 0, none⟩ = some (.slice A3 pts.reverse.length c3) := by rw [List.length_reverse]; exact hg6.cell k5 hng6
  have ho6 : OwnVecs B5 w6 A5 c5 (lowC pts) := H5.out.2.kept hg6 (by
    rcases hb : blockOf A5 with _ | b
    · exact .inl rfl
    · refine .inr fun e => ?_
      have h1 := (H5.out.2.below b hb).1
      have h2 := H4.out.2 b e.symm
      omega)
  have hz6 := hg6.size
  have hs6 : SinceOf w w6 := SinceOf.grown ⟨v5, rfl⟩ hg6 (fun b hb => (H5.out.1.own b hb).1)
  obtain ⟨v6, rfl⟩ := hs6
  have hO6 : Nonempty (Old v6.wd gp) := ⟨⟨by omega⟩⟩
  have H6 := Lib.hid (And.intro hl6 ho6)
  have hr6 : pts.reverse.any farB = false := by rw [List.any_reverse]; exact hfar
  clear hl6 ho6 hg6 k5 hO5
  go_wp2_with fail
  refine (chain_any gp A3 c3 pts.reverse _ k6 inferInstance H6.out.1.isRow hr6 (by rw [List.length_reverse]; omega)).mono ?_
  rintro e _ ⟨A7, c7, he, ho7, ⟨x7, rfl⟩⟩
  have hx7 := x7.size
  obtain ⟨low, hlow⟩ : ∃ x, x = lowC pts := ⟨_, rfl⟩
  obtain ⟨upp, hupp⟩ : ∃ x, x = lowC pts.reverse := ⟨_, rfl⟩
  have hn1 : low.length ≤ 400 := by rw [hlow]; exact Nat.le_trans (lowC_len _) (by omega)
  have hm1 : upp.length ≤ 400 := by rw [hupp]; exact Nat.le_trans (lowC_len _) (by rw [List.length_reverse]; omega)
  rw [← hupp] at he ho7
  rw [← hlow]
  have hoL : OwnVecs B5 x7.wd A5 c5 low := by rw [hlow]; exact H6.out.2.of ⟨x7, rfl⟩
  have HU := Lib.hid (And.intro hlow (And.intro hupp (And.intro hoL (And.intro ho7 (And.intro hfar HP.out)))))
  have hc5 := hoL.le_cap
  have hc7 := ho7.le_cap
  have hs7 : SinceOf w x7.wd := SinceOf.further ⟨v6, rfl⟩ x7
  obtain ⟨n, hln⟩ : ∃ n, low.length = n := ⟨_, rfl⟩
  obtain ⟨m, hum⟩ : ∃ m, upp.length = m := ⟨_, rfl⟩
  have HN := Lib.hid (And.intro hln hum)
  rw [hln] at hn1 hc5 ⊢
  rw [hum] at hm1 hc7 he
  subst he
  obtain ⟨v7, hv7⟩ := hs7
  rw [hv7] at HU hx7 ⊢
  clear hlow hupp hoL ho7 hln hum hv7 k6 hO6 hr6 hfar hne5 hng6
  clear x7
  by_cases h2 : n < 2
  · have d2 : decide ((n : Int) < 2) = true := decide_eq_true (by omega)
    go_wp2_with fail
    go_returns
    exact ⟨none, 0, [], 11, rfl, IsRow.nil _ _ _, .inr (.inr (.inl ⟨hn', HF.out, hull_flat HF.out (.inl (by unfold lowX; rw [← HP.out, ← HU.out.1, HN.out.1]; omega)), rfl, rfl⟩)), by (repeat (first | (with_reducible exact SinceOf.refl _) | (with_reducible assumption) | (with_reducible refine SinceOf.alloc ?_ _) | (with_reducible refine SinceOf.drew ?_) | (with_reducible refine SinceOf.drewN ?_ _) | (with_reducible refine SinceOf.later ?_ _) | (with_reducible refine SinceOf.further ?_ _) | (with_reducible refine SinceOf.setCell ?_ (by first | exact Nat.le_refl _ | (simp; done) | omega | (simp; omega)) _))), FreshA.none _⟩
  have d2 : decide ((n : Int) < 2) = false := decide_eq_false (by omega)
  have w1 : IntKind.i64.wrap ((n : Int) + (m : Int)) = (n : Int) + (m : Int) := IntWalk.i64_in _ (by omega)
  have w2 : IntKind.i64.wrap ((n : Int) + (m : Int) - 2) = (n : Int) + (m : Int) - 2 := IntWalk.i64_in _ (by omega)
  by_cases h3 : n + m - 2 < 3
  · have d3 : decide ((n : Int) + (m : Int) - 2 < 3) = true := decide_eq_true (by omega)
    go_wp2_with fail
    go_returns
    exact ⟨none, 0, [], 11, rfl, IsRow.nil _ _ _, .inr (.inr (.inl ⟨hn', HF.out, hull_flat HF.out (.inr (by unfold lowX uppX; rw [← HP.out, ← HU.out.1, ← HU.out.2.1, HN.out.1, HN.out.2]; omega)), rfl, rfl⟩)), by (repeat (first | (with_reducible exact SinceOf.refl _) | (with_reducible assumption) | (with_reducible refine SinceOf.alloc ?_ _) | (with_reducible refine SinceOf.drew ?_) | (with_reducible refine SinceOf.drewN ?_ _) | (with_reducible refine SinceOf.later ?_ _) | (with_reducible refine SinceOf.further ?_ _) | (with_reducible refine SinceOf.setCell ?_ (by first | exact Nat.le_refl _ | (simp; done) | omega | (simp; omega)) _))), FreshA.none _⟩
  have d3 : decide ((n : Int) + (m : Int) - 2 < 3) = false := decide_eq_false (by omega)
  have hm2 : 2 ≤ m := by
    have hl2 : 2 ≤ (xpts l).length := by
      have := lowC_len pts
      rw [← HU.out.1, HN.out.1, HP.out] at this
      omega
    have q := (hull_or_line (M := 8000) (pts := xpts l) (fun q hq => (far_bounds HF.out q ((xpts_strict l).2 q |>.1 hq)).2) (xpts_strict l).1 hl2).2.1
    rw [← HP.out, ← HU.out.2.1, HN.out.2] at q
    exact q
  have w3 : IntKind.i64.wrap ((n : Int) - 1) = (n : Int) - 1 := IntWalk.i64_in _ (by omega)
  have w4 : IntKind.i64.wrap ((m : Int) - 1) = (m : Int) - 1 := IntWalk.i64_in _ (by omega)
  have w5 : ((n : Int) - 1).toNat = n - 1 := by omega
  have w6 : ((m : Int) - 1).toNat = m - 1 := by omega
  have w7 : 0 ≤ (n : Int) - 1 := by omega
  have w8 : 0 ≤ (m : Int) - 1 := by omega
  have w9 : (n : Int) - 1 ≤ c5 := by omega
  have w11 : 1 ≤ (n : Int) := by omega
  have w12 : 1 ≤ (m : Int) := by omega
  have w10 : (m : Int) - 1 ≤ c7 := by omega
  obtain ⟨L1, hL1⟩ : ∃ x, x = low.take (n - 1) := ⟨_, rfl⟩
  obtain ⟨L2, hL2⟩ : ∃ x, x = upp.take (m - 1) := ⟨_, rfl⟩
  have l1 : L1.length = n - 1 := by rw [hL1, List.length_take, HN.out.1]; omega
  have l2 : L2.length = m - 1 := by rw [hL2, List.length_take, HN.out.2]; omega
  have hO1 : OwnVecs B5 v7.wd A5 c5 L1 := by rw [hL1]; exact HU.out.2.2.1.takeN encV_len (n - 1) (by rw [HN.out.1]; omega) (by rw [HN.out.1]; omega)
  have hR2 : IsVecs v7.wd A7 c7 L2 := by rw [hL2]; exact (HU.out.2.2.2.1.isRow encV_len).take _
  have HR := Lib.hid (And.intro hO1 (And.intro hR2 (And.intro hL1 (And.intro hL2 (And.intro l1 l2)))))
  clear hO1 hR2 hL1 hL2 l1 l2
  have hv7 := v7.size
  go_wp2_with fail
  obtain ⟨hi, hz0, hz1, hz2⟩ := HI.out
  go_region_law ((refine step_append_row rfl (.tmp 43) (.tmp 48) 22 rfl encV_len (by omega) encV_one i0 _ 16 Try.underlying22 hi hz0 hz1 hz2 rfl (l := L1) (A := A5) (c := c5) (base := B5) ?hs ?own (m := L2) (B := A7) (d := c7) ?hx ?hm ?h63 ?hby ?hbase ?_
                  case hs => rw [HR.out.2.2.2.2.1]; kernel_rfl
                  case own => exact HR.out.1.of (by (repeat (first | (with_reducible exact SinceOf.refl _) | (with_reducible assumption) | (with_reducible refine SinceOf.alloc ?_ _) | (with_reducible refine SinceOf.drew ?_) | (with_reducible refine SinceOf.drewN ?_ _) | (with_reducible refine SinceOf.later ?_ _) | (with_reducible refine SinceOf.further ?_ _) | (with_reducible refine SinceOf.setCell ?_ (by first | exact Nat.le_refl _ | (simp; done) | omega | (simp; omega)) _))))
                  case hx => rw [HR.out.2.2.2.2.2]; kernel_rfl
                  case hm => exact HR.out.2.1.of (by (repeat (first | (with_reducible exact SinceOf.refl _) | (with_reducible assumption) | (with_reducible refine SinceOf.alloc ?_ _) | (with_reducible refine SinceOf.drew ?_) | (with_reducible refine SinceOf.drewN ?_ _) | (with_reducible refine SinceOf.later ?_ _) | (with_reducible refine SinceOf.further ?_ _) | (with_reducible refine SinceOf.setCell ?_ (by first | exact Nat.le_refl _ | (simp; done) | omega | (simp; omega)) _))))
                  case h63 => rw [HR.out.2.2.2.2.1, HR.out.2.2.2.2.2]; unfold maxLen; omega
                  case hby => rw [HR.out.2.2.2.2.1, HR.out.2.2.2.2.2]; omega
                  case hbase => simp; omega
                  intro A8 c8 w8 hown8 hgrow8 hb8
                  rw [HR.out.2.2.2.2.1, HR.out.2.2.2.2.2]))
  have hH : IsHull l (L1 ++ L2) := by
    have q := hull_is HF.out (by unfold lowX; rw [← HP.out, ← HU.out.1, HN.out.1]; exact h2) (by unfold lowX uppX; rw [← HP.out, ← HU.out.1, ← HU.out.2.1, HN.out.1, HN.out.2]; exact h3)
    unfold lowX uppX at q
    rw [← HP.out, ← HU.out.1, ← HU.out.2.1, List.dropLast_eq_take, List.dropLast_eq_take, HN.out.1, HN.out.2, ← HR.out.2.2.1, ← HR.out.2.2.2.1] at q
    exact q
  have hlen8 : (L1 ++ L2).length = n - 1 + (m - 1) := by rw [List.length_append, HR.out.2.2.2.2.1, HR.out.2.2.2.2.2]
  have hs8 : SinceOf w w8 := SinceOf.grown (by (repeat (first | (with_reducible exact SinceOf.refl _) | (with_reducible assumption) | (with_reducible refine SinceOf.alloc ?_ _) | (with_reducible refine SinceOf.drew ?_) | (with_reducible refine SinceOf.drewN ?_ _) | (with_reducible refine SinceOf.later ?_ _) | (with_reducible refine SinceOf.further ?_ _) | (with_reducible refine SinceOf.setCell ?_ (by first | exact Nat.le_refl _ | (simp; done) | omega | (simp; omega)) _)))) hgrow8 (fun b hb => by have := (HR.out.1.below b hb).1; omega)
  have hxb : ∀ q ∈ l, -8000 ≤ q.1 ∧ q.1 ≤ 8000 := fun q hq => (far_bounds HF.out q hq).1
  obtain ⟨v8, rfl⟩ := hs8
  have hq400 : n - 1 + (m - 1) ≤ 800 := by omega
  generalize n - 1 + (m - 1) = q at *
  generalize L1 ++ L2 = out at *
  have H8 := Lib.hid (And.intro hH (And.intro hown8 (And.intro hlen8 hxb)))
  have hq0 : 3 ≤ q := by have := hH.three; omega
  have hqc : q ≤ c8 := by have := hown8.le_cap; omega
  clear hH hown8 hlen8 hxb hgrow8 hb8
  by_cases h160 : 160 < q
  · have d160 : decide (160 < (q : Int)) = true := decide_eq_true (by omega)
    go_wp2_with fail
    go_returns
    obtain ⟨k, hk, ha⟩ := least_at out out.length (by rw [H8.out.2.2.1]; omega) (Nat.le_refl _)
    have hy := begin_hull H8.out.2.2.2 H8.out.1 hk ha
    exact ⟨none, 0, [], 9, rfl, IsRow.nil _ _ _, .inr (.inr (.inr ⟨hn', HF.out, rotL k out, hy, .inl ⟨by rw [rotL_length (by omega), H8.out.2.2.1]; exact h160, rfl, rfl⟩⟩)), by (repeat (first | (with_reducible exact SinceOf.refl _) | (with_reducible assumption) | (with_reducible refine SinceOf.alloc ?_ _) | (with_reducible refine SinceOf.drew ?_) | (with_reducible refine SinceOf.drewN ?_ _) | (with_reducible refine SinceOf.later ?_ _) | (with_reducible refine SinceOf.further ?_ _) | (with_reducible refine SinceOf.setCell ?_ (by first | exact Nat.le_refl _ | (simp; done) | omega | (simp; omega)) _))), FreshA.none _⟩
  · have d160 : decide (160 < (q : Int)) = false := decide_eq_false (by omega)
    obtain ⟨g8, hA8, hg8, hLv8⟩ := H8.out.2.1.live encV_len (by rw [H8.out.2.2.1]; omega)
    subst hA8
    go_wp2_with fail
    have B := begin_any g8 0 c8 out v8.wd (H8.out.2.1.isRow encV_len) (by rw [H8.out.2.2.1]; omega) (by rw [H8.out.2.2.1]; omega) (by rw [H8.out.2.2.1]; omega)
    rw [H8.out.2.2.1] at B
    refine B.mono ?_
    rintro e _ ⟨A9, c9, k, rfl, hk, ha, ho9, ⟨x9, rfl⟩⟩
    rw [← H8.out.2.2.1] at hk ha
    have hy := begin_hull H8.out.2.2.2 H8.out.1 hk ha
    have H9 := Lib.hid (And.intro hy ho9)
    have hrl : (rotL k out).length = q := by rw [rotL_length (by omega), H8.out.2.2.1]
    clear hy ho9 ha B
    go_wp2_with fail
    go_returns
    exact ⟨A9, c9, rotL k out, 0, by rw [hrl]; rfl, H9.out.2.isRow encV_len, .inr (.inr (.inr ⟨hn', HF.out, rotL k out, H9.out.1, .inr ⟨by omega, rfl, rfl⟩⟩)), by (repeat (first | (with_reducible exact SinceOf.refl _) | (with_reducible assumption) | (with_reducible refine SinceOf.alloc ?_ _) | (with_reducible refine SinceOf.drew ?_) | (with_reducible refine SinceOf.drewN ?_ _) | (with_reducible refine SinceOf.later ?_ _) | (with_reducible refine SinceOf.further ?_ _) | (with_reducible refine SinceOf.setCell ?_ (by first | exact Nat.le_refl _ | (simp; done) | omega | (simp; omega)) _))), FreshA.own H9.out.2 (by have := v8.size; omega)⟩
theorem hull_any (A : Option Addr) (c : Nat) (l : List (Int × Int)) (w : World) (h : IsVecs w A c l) (hlen : l.length < 4611686018427387904) :
    Calls Try.prog 22 #[.slice A l.length c] w fun e w' => ∃ A' c' r err, e = .returned (.tuple #[.slice A' r.length c', .int .i64 err]) ∧ IsVecs w' A' c' r ∧ HullRes l r err ∧ SinceOf w w' := by
  refine (hull_new A c l w h hlen).mono ?_
  rintro e w' ⟨A', c', r, err, h1, h2, h3, h4, -⟩
  exact ⟨A', c', r, err, h1, h2, h3, h4⟩
end Go.Proofs.Yticmfmcflikneaa
