/- Layer 18: Grow of the reference. -/
import Derived.Test.YticmfmcflikneaaOff5
namespace Go.Proofs.Yticmfmcflikneaa
open Go.RowKit Go.Sort
set_option linter.unusedVariables false
set_option linter.unusedSimpArgs false
attribute [local go_sem ↓] Go.wp_at_zero Go.wp_at_succ

set_option maxRecDepth 100000 in
set_option maxHeartbeats 16000000 in
theorem widened_any (A : Option Addr) (c : Nat) (r : List (Int × Int)) (k : Int) (w : World) (h : IsVecs w A c r) (hlen : r.length < 4611686018427387904) (hk1 : 0 ≤ k) (hk2 : k ≤ 200) :
    Calls Try.prog 88 #[.slice A r.length c, .int .i64 k] w fun e w' => ∃ A' c' s err, e = .returned (.tuple #[.slice A' s.length c', .int .i64 err]) ∧ IsVecs w' A' c' s ∧ growF k r = (s, err) ∧ SinceOf w w' ∧ FreshA w A' := by
  have H := Lib.hid h
  clear h
  have C := fun W (hW : SinceOf w W) => refConvex_any A c r W (H.out.of hW) hlen
  cases hc : convexB r
  · rw [hc] at C
    have HG := Lib.hid (growF_bad (k := k) hc)
    clear hc
    go_enter Try.func88, Try.ntmps88
    go_wp2_with fail
    refine (C _ (by (repeat (first | (with_reducible exact SinceOf.refl _) | (with_reducible assumption) | (with_reducible refine SinceOf.alloc ?_ _) | (with_reducible refine SinceOf.drew ?_) | (with_reducible refine SinceOf.drewN ?_ _) | (with_reducible refine SinceOf.later ?_ _) | (with_reducible refine SinceOf.further ?_ _) | (with_reducible refine SinceOf.setCell ?_ (by first | exact Nat.le_refl _ | (simp; done) | omega | (simp; omega)) _))))).calls.mono ?_
    rintro e _ ⟨rfl, x1, rfl⟩
    go_wp2_with fail
    go_returns
    exact ⟨none, 0, [], 11, rfl, IsRow.nil _ _ _, HG.out, by (repeat (first | (with_reducible exact SinceOf.refl _) | (with_reducible assumption) | (with_reducible refine SinceOf.alloc ?_ _) | (with_reducible refine SinceOf.drew ?_) | (with_reducible refine SinceOf.drewN ?_ _) | (with_reducible refine SinceOf.later ?_ _) | (with_reducible refine SinceOf.further ?_ _) | (with_reducible refine SinceOf.setCell ?_ (by first | exact Nat.le_refl _ | (simp; done) | omega | (simp; omega)) _))), FreshA.none _⟩
  rw [hc] at C
  have HC := Lib.hid hc
  obtain ⟨h3, h160, hf, -⟩ := convexB_iff.1 hc
  clear hc hf
  by_cases hk0 : k = 0
  · subst hk0
    go_enter Try.func88, Try.ntmps88
    go_wp2_with fail
    refine (C _ (by (repeat (first | (with_reducible exact SinceOf.refl _) | (with_reducible assumption) | (with_reducible refine SinceOf.alloc ?_ _) | (with_reducible refine SinceOf.drew ?_) | (with_reducible refine SinceOf.drewN ?_ _) | (with_reducible refine SinceOf.later ?_ _) | (with_reducible refine SinceOf.further ?_ _) | (with_reducible refine SinceOf.setCell ?_ (by first | exact Nat.le_refl _ | (simp; done) | omega | (simp; omega)) _))))).calls.mono ?_
    rintro e _ ⟨rfl, x1, rfl⟩
    go_wp2_with fail
    refine (canonical10_any A c r _ (H.out.of (by (repeat (first | (with_reducible exact SinceOf.refl _) | (with_reducible assumption) | (with_reducible refine SinceOf.alloc ?_ _) | (with_reducible refine SinceOf.drew ?_) | (with_reducible refine SinceOf.drewN ?_ _) | (with_reducible refine SinceOf.later ?_ _) | (with_reducible refine SinceOf.further ?_ _) | (with_reducible refine SinceOf.setCell ?_ (by first | exact Nat.le_refl _ | (simp; done) | omega | (simp; omega)) _))))) (by omega) (by omega)).mono ?_
    rintro e _ ⟨A2, c2, q, rfl, hq, hm, ho, ⟨x2, rfl⟩⟩
    have hl := rotL_length (r := r) (Nat.le_of_lt hq)
    have hg := growF_zero HC.out (convex_begin HC.out hq hm) hl
    have HP := Lib.hid (And.intro hg (And.intro ho hl))
    clear hg ho hl hm
    have h1 := x1.size
    go_wp2_with fail
    go_returns
    exact ⟨A2, c2, rotL q r, 0, by rw [HP.out.2.2]; rfl, HP.out.2.1.isRow encV_len, HP.out.1, by (repeat (first | (with_reducible exact SinceOf.refl _) | (with_reducible assumption) | (with_reducible refine SinceOf.alloc ?_ _) | (with_reducible refine SinceOf.drew ?_) | (with_reducible refine SinceOf.drewN ?_ _) | (with_reducible refine SinceOf.later ?_ _) | (with_reducible refine SinceOf.further ?_ _) | (with_reducible refine SinceOf.setCell ?_ (by first | exact Nat.le_refl _ | (simp; done) | omega | (simp; omega)) _))), FreshA.own HP.out.2.1 h1⟩
  have g3 : (k == 0) = false := by simpa using hk0
  obtain ⟨i0, hi, hz0, hz1, hz2⟩ := info_parts infoVec
  have HI := Lib.hid (And.intro hi (And.intro hz0 (And.intro hz1 hz2)))
  have hol := octR_len hk1 hk2
  have HK := Lib.hid hk0
  clear hi hz0 hz1 hz2 hk0
  go_enter Try.func88, Try.ntmps88
  go_wp2_with fail
  refine (C _ (by (repeat (first | (with_reducible exact SinceOf.refl _) | (with_reducible assumption) | (with_reducible refine SinceOf.alloc ?_ _) | (with_reducible refine SinceOf.drew ?_) | (with_reducible refine SinceOf.drewN ?_ _) | (with_reducible refine SinceOf.later ?_ _) | (with_reducible refine SinceOf.further ?_ _) | (with_reducible refine SinceOf.setCell ?_ (by first | exact Nat.le_refl _ | (simp; done) | omega | (simp; omega)) _))))).calls.mono ?_
  rintro e _ ⟨rfl, x1, rfl⟩
  clear C
  go_wp2_with fail
  refine (refOctagon_any k _).mono ?_
  rintro e _ ⟨A1, c1, r9, e9, rfl, hv9, hr9, ⟨x2, rfl⟩⟩
  obtain ⟨rfl, rfl⟩ := octF_of (by have := HK.out; omega) hk2 hr9
  rw [← show octR k = octF k from if_neg HK.out] at hv9 ⊢
  obtain ⟨v, hv⟩ : SinceOf w x2.wd := by (repeat (first | (with_reducible exact SinceOf.refl _) | (with_reducible assumption) | (with_reducible refine SinceOf.alloc ?_ _) | (with_reducible refine SinceOf.drew ?_) | (with_reducible refine SinceOf.drewN ?_ _) | (with_reducible refine SinceOf.later ?_ _) | (with_reducible refine SinceOf.further ?_ _) | (with_reducible refine SinceOf.setCell ?_ (by first | exact Nat.le_refl _ | (simp; done) | omega | (simp; omega)) _)))
  rw [hv] at hv9 ⊢
  clear hv hr9 x2 x1 g3
  have HO := Lib.hid hv9
  clear hv9
  have HR := Lib.hid (growF_ok (k := k) HC.out)
  generalize octR k = o at *
  go_wp2_with fail
  go_loopg [8, 9] r.length (fun gas s8 s9 wr => ∃ (i : Nat) (A2 : Option Addr) (c2 n2 : Nat), i ≤ r.length ∧ r.length - i ≤ gas ∧ n2 = i * o.length ∧ s8 = .slice A2 n2 c2 ∧ s9 = .int .i64 i ∧ OwnVecs v.wd.heap.size wr A2 c2 (sumsL (r.take i) o) ∧ SinceOf v.wd wr)
  case atStart => exact ⟨0, none, 0, 0, by omega, by omega, by omega, rfl, rfl, Owns.nil _ _ _ _ _, by (repeat (first | (with_reducible exact SinceOf.refl _) | (with_reducible assumption) | (with_reducible refine SinceOf.alloc ?_ _) | (with_reducible refine SinceOf.drew ?_) | (with_reducible refine SinceOf.drewN ?_ _) | (with_reducible refine SinceOf.later ?_ _) | (with_reducible refine SinceOf.further ?_ _) | (with_reducible refine SinceOf.setCell ?_ (by first | exact Nat.le_refl _ | (simp; done) | omega | (simp; omega)) _)))⟩
  case round =>
    obtain ⟨i, A2, c2, n2, hi, hgas, hn2, rfl, rfl, ho, ⟨z, rfl⟩⟩ := hrel
    by_cases hlt : i < r.length
    · have hil : i * o.length ≤ 160 * 8 := Nat.mul_le_mul (by omega) hol
      have htk := sumsL_take (o := o) hlt
      have hsl : (sumsL (r.take i) o).length = n2 := by rw [sumsL_len, List.length_take, Nat.min_eq_left (by omega), hn2]
      have hn2s : (i + 1) * o.length = n2 + o.length := by rw [hn2, Nat.add_mul, Nat.one_mul]
      have hx : (r[i].1, r[i].2) = r[i] := rfl
      have HT := Lib.hid (And.intro ho (And.intro htk (And.intro hsl hn2s)))
      clear ho htk hsl hn2s
      rw [← hn2] at hil
      clear hn2
      go_wp2_with fail
      go_loopg [8, 10] o.length (fun gas2 s8 s10 wr => ∃ (j : Nat) (A3 : Option Addr) (c3 n3 : Nat), j ≤ o.length ∧ o.length - j ≤ gas2 ∧ n3 = n2 + j ∧ s8 = .slice A3 n3 c3 ∧ s10 = .int .i64 j ∧ OwnVecs v.wd.heap.size wr A3 c3 (sumsL (r.take i) o ++ (o.take j).map (sumOf r[i])) ∧ SinceOf v.wd wr)
      case atStart => exact ⟨0, A2, c2, n2, by omega, by omega, rfl, rfl, rfl, by rw [List.take_zero, List.map_nil, List.append_nil]; exact HT.out.1.of (by (repeat (first | (with_reducible exact SinceOf.refl _) | (with_reducible assumption) | (with_reducible refine SinceOf.alloc ?_ _) | (with_reducible refine SinceOf.drew ?_) | (with_reducible refine SinceOf.drewN ?_ _) | (with_reducible refine SinceOf.later ?_ _) | (with_reducible refine SinceOf.further ?_ _) | (with_reducible refine SinceOf.setCell ?_ (by first | exact Nat.le_refl _ | (simp; done) | omega | (simp; omega)) _)))), by (repeat (first | (with_reducible exact SinceOf.refl _) | (with_reducible assumption) | (with_reducible refine SinceOf.alloc ?_ _) | (with_reducible refine SinceOf.drew ?_) | (with_reducible refine SinceOf.drewN ?_ _) | (with_reducible refine SinceOf.later ?_ _) | (with_reducible refine SinceOf.further ?_ _) | (with_reducible refine SinceOf.setCell ?_ (by first | exact Nat.le_refl _ | (simp; done) | omega | (simp; omega)) _)))⟩
      case round =>
        obtain ⟨j, A3, c3, n3, hj, hgas2, hn3, rfl, rfl, ho3, ⟨u, rfl⟩⟩ := hrel
        by_cases hlt2 : j < o.length
        · have hr0 := H.out.of (w' := u.wd) (by (repeat (first | (with_reducible exact SinceOf.refl _) | (with_reducible assumption) | (with_reducible refine SinceOf.alloc ?_ _) | (with_reducible refine SinceOf.drew ?_) | (with_reducible refine SinceOf.drewN ?_ _) | (with_reducible refine SinceOf.later ?_ _) | (with_reducible refine SinceOf.further ?_ _) | (with_reducible refine SinceOf.setCell ?_ (by first | exact Nat.le_refl _ | (simp; done) | omega | (simp; omega)) _))))
          obtain ⟨g, off, rfl, hr⟩ := hr0.at_ (by omega)
          have hO := hr.there
          have hs0 := HO.out.of (w' := u.wd) (by (repeat (first | (with_reducible exact SinceOf.refl _) | (with_reducible assumption) | (with_reducible refine SinceOf.alloc ?_ _) | (with_reducible refine SinceOf.drew ?_) | (with_reducible refine SinceOf.drewN ?_ _) | (with_reducible refine SinceOf.later ?_ _) | (with_reducible refine SinceOf.further ?_ _) | (with_reducible refine SinceOf.setCell ?_ (by first | exact Nat.le_refl _ | (simp; done) | omega | (simp; omega)) _))))
          obtain ⟨g3, off3, rfl, hs⟩ := hs0.at_ (by omega)
          have hO3 := hs.there
          have a0 := hr.v0 i hlt
          have a1 := hr.v1 i hlt
          have b0 := hs.v0 j hlt2
          have b1 := hs.v1 j hlt2
          have htk2 := List.take_succ_eq_append_getElem hlt2
          have AD := refAdd_any r[i].1 r[i].2 o[j].1 o[j].2
          obtain ⟨L, hL⟩ : ∃ L, L = sumsL (r.take i) o ++ (o.take j).map (sumOf r[i]) := ⟨_, rfl⟩
          have hL2 : sumsL (r.take i) o ++ (o.take (j + 1)).map (sumOf r[i]) = L ++ [(wadd r[i].1 o[j].1, wadd r[i].2 o[j].2)] := by
            rw [hL, htk2, List.map_append, List.append_assoc]; rfl
          have hLl : L.length = n3 := by rw [hL, List.length_append, HT.out.2.2.1, List.length_map, List.length_take, Nat.min_eq_left (by omega), hn3]
          rw [← hL] at ho3
          have HP := Lib.hid (And.intro ho3 (And.intro hL2 hLl))
          clear ho3 hL2 hL hLl htk2 hr hr0 hs hs0
          generalize wadd r[i].1 o[j].1 = sx at *
          generalize wadd r[i].2 o[j].2 = sy at *
          generalize r[i].1 = xa at *
          generalize r[i].2 = ya at *
          generalize o[j].1 = xb at *
          generalize o[j].2 = yb at *
          have hn3b : n3 ≤ 2000 := by omega
          have HN3 := Lib.hid hn3
          clear hn3
          go_wp2_with fail
          go_region_law
            (first
              | (go_simp; go_at_call 27; refine (AD _).calls.mono ?_; rintro e _ ⟨rfl, z1, rfl⟩; (try dsimp only))
              | (refine step_append_row (by rfl) (.tmp 35) (.tmp 45) 22 (by rfl) encV_len (by omega) encV_one i0 _ 16 Try.underlying22 HI.out.1 HI.out.2.1 HI.out.2.2.1 HI.out.2.2.2 rfl (l := L) (A := A3) (c := c3) (base := v.wd.heap.size) (by rw [HP.out.2.2]; rfl) (HP.out.1.of (by (repeat (first | (with_reducible exact SinceOf.refl _) | (with_reducible assumption) | (with_reducible refine SinceOf.alloc ?_ _) | (with_reducible refine SinceOf.drew ?_) | (with_reducible refine SinceOf.drewN ?_ _) | (with_reducible refine SinceOf.later ?_ _) | (with_reducible refine SinceOf.further ?_ _) | (with_reducible refine SinceOf.setCell ?_ (by first | exact Nat.le_refl _ | (simp; done) | omega | (simp; omega)) _))))) (m := [(sx, sy)]) (by rfl) (isRow_atV _ _ _ _ (by first | rfl | simp)) (by rw [HP.out.2.2]; unfold maxLen; simp; omega) (by rw [HP.out.2.2]; simp; omega) (by have := z1.size; have := u.size; simp at *; omega) ?_; intro A4 c4 w4 ho4 hgr4 hb4))
          all_goals
            go_wp2_with fail
            go_roundg (o.length - (j + 1))
            case measure => omega
            case rel =>
              refine ⟨j + 1, A4, c4, n3 + 1, hlt2, Nat.le_refl _, by rw [HN3.out, Nat.add_assoc], (by rw [HP.out.2.2]; try rfl), by go_num, ?_, SinceOf.grown (by (repeat (first | (with_reducible exact SinceOf.refl _) | (with_reducible assumption) | (with_reducible refine SinceOf.alloc ?_ _) | (with_reducible refine SinceOf.drew ?_) | (with_reducible refine SinceOf.drewN ?_ _) | (with_reducible refine SinceOf.later ?_ _) | (with_reducible refine SinceOf.further ?_ _) | (with_reducible refine SinceOf.setCell ?_ (by first | exact Nat.le_refl _ | (simp; done) | omega | (simp; omega)) _)))) hgr4 (fun q hq => (HP.out.1.below q hq).1)⟩
              rw [HP.out.2.1]
              exact ho4
        · obtain rfl : j = o.length := by omega
          have HP := Lib.hid (show OwnVecs v.wd.heap.size u.wd A3 c3 (sumsL (r.take (i + 1)) o) by rw [HT.out.2.1]; rw [List.take_length] at ho3; exact ho3)
          clear ho3
          go_wp2_with fail
          go_roundg (r.length - (i + 1))
          case measure => omega
          case rel => exact ⟨i + 1, A3, c3, n3, hlt, Nat.le_refl _, by rw [HT.out.2.2.2, hn3], rfl, by go_num, HP.out, by (repeat (first | (with_reducible exact SinceOf.refl _) | (with_reducible assumption) | (with_reducible refine SinceOf.alloc ?_ _) | (with_reducible refine SinceOf.drew ?_) | (with_reducible refine SinceOf.drewN ?_ _) | (with_reducible refine SinceOf.later ?_ _) | (with_reducible refine SinceOf.further ?_ _) | (with_reducible refine SinceOf.setCell ?_ (by first | exact Nat.le_refl _ | (simp; done) | omega | (simp; omega)) _)))⟩
    · obtain rfl : i = r.length := by omega
      rw [List.take_length] at ho
      have hsl : (sumsL r o).length = n2 := by rw [sumsL_len, hn2]
      have hil : r.length * o.length ≤ 160 * 8 := Nat.mul_le_mul (by omega) hol
      have HN := Lib.hid (refHull_new A2 c2 (sumsL r o) z.wd (ho.isRow encV_len) (by rw [sumsL_len]; omega))
      rw [hsl] at HN
      have HS := Lib.hid hsl
      clear ho hn2 hsl hil
      go_wp2_with fail
      refine HN.out.mono ?_
      rintro e _ ⟨A6, c6, r6, e6, rfl, hv6, hr6, ⟨x6, rfl⟩, hf6⟩
      have HP := Lib.hid (And.intro hv6 (And.intro (hullF_eq hr6) hf6))
      clear hv6 hr6 hf6 HN
      have hz6 := z.size
      have hz7 := v.size
      go_wp2_with fail
      go_returns
      exact ⟨A6, c6, r6, e6, rfl, HP.out.1, HR.out.trans HP.out.2.1, by (repeat (first | (with_reducible exact SinceOf.refl _) | (with_reducible assumption) | (with_reducible refine SinceOf.alloc ?_ _) | (with_reducible refine SinceOf.drew ?_) | (with_reducible refine SinceOf.drewN ?_ _) | (with_reducible refine SinceOf.later ?_ _) | (with_reducible refine SinceOf.further ?_ _) | (with_reducible refine SinceOf.setCell ?_ (by first | exact Nat.le_refl _ | (simp; done) | omega | (simp; omega)) _))), fun b hb => by have := HP.out.2.2 b hb; omega⟩
set_option maxRecDepth 100000 in
set_option maxHeartbeats 16000000 in
theorem refGrow_any (A : Option Addr) (c : Nat) (X : List RgR) (k : Int) (w : World) (h : IsRings w A c X) (hlen : X.length ≤ 1000) :
    Calls Try.prog 55 #[.slice A X.length c, .int .i64 k] w fun e w' => ∃ B d Y err, e = .returned (.tuple #[.slice B Y.length d, .int .i64 err]) ∧ IsRings w' B d Y ∧ growV k (vxs X) = (vxs Y, err) ∧ SinceOf w w' := by
  have H := Lib.hid h
  clear h
  by_cases h1 : k < 0
  · have hgv : growV k (vxs X) = ([], 2) := by unfold growV; rw [if_neg (by omega)]
    have g1 : decide (k < 0) = true := decide_eq_true h1
    have HK := Lib.hid hgv
    clear h1 hgv
    go_enter Try.func55, Try.ntmps55
    go_wp2_with fail
    go_returns
    exact ⟨none, 0, [], 2, rfl, IsRings.nil _, HK.out, by (repeat (first | (with_reducible exact SinceOf.refl _) | (with_reducible assumption) | (with_reducible refine SinceOf.alloc ?_ _) | (with_reducible refine SinceOf.drew ?_) | (with_reducible refine SinceOf.drewN ?_ _) | (with_reducible refine SinceOf.later ?_ _) | (with_reducible refine SinceOf.further ?_ _) | (with_reducible refine SinceOf.setCell ?_ (by first | exact Nat.le_refl _ | (simp; done) | omega | (simp; omega)) _)))⟩
  by_cases h2 : 200 < k
  · have hgv : growV k (vxs X) = ([], 2) := by unfold growV; rw [if_neg (by omega)]
    have g1 : decide (k < 0) = false := decide_eq_false h1
    have g2 : decide (200 < k) = true := decide_eq_true h2
    have HK := Lib.hid hgv
    clear h1 h2 hgv
    go_enter Try.func55, Try.ntmps55
    go_wp2_with fail
    go_returns
    exact ⟨none, 0, [], 2, rfl, IsRings.nil _, HK.out, by (repeat (first | (with_reducible exact SinceOf.refl _) | (with_reducible assumption) | (with_reducible refine SinceOf.alloc ?_ _) | (with_reducible refine SinceOf.drew ?_) | (with_reducible refine SinceOf.drewN ?_ _) | (with_reducible refine SinceOf.later ?_ _) | (with_reducible refine SinceOf.further ?_ _) | (with_reducible refine SinceOf.setCell ?_ (by first | exact Nat.le_refl _ | (simp; done) | omega | (simp; omega)) _)))⟩
  have g1 : decide (k < 0) = false := decide_eq_false h1
  have g2 : decide (200 < k) = false := decide_eq_false h2
  have HK := Lib.hid (And.intro (show 0 ≤ k ∧ k ≤ 200 by omega) (show growV k (vxs X) = growL k (vxs X) by unfold growV; rw [if_pos (by omega)]))
  obtain ⟨i0, hi, hz0, hz1, hz2⟩ := info_parts infoRing
  have HI := Lib.hid (And.intro hi (And.intro hz0 (And.intro hz1 hz2)))
  clear hi hz0 hz1 hz2
  go_enter Try.func55, Try.ntmps55
  go_wp2_with fail
  clear g1 g2 h1 h2
  go_loopg [6, 7] X.length (fun gas s6 s7 wr => ∃ (i : Nat) (A2 : Option Addr) (c2 n2 : Nat) (Y : List RgR), i ≤ X.length ∧ X.length - i ≤ gas ∧ n2 = Y.length ∧ n2 ≤ i ∧ s6 = .slice A2 n2 c2 ∧ s7 = .int .i64 i ∧ OwnRings w.heap.size wr A2 c2 Y ∧ growL k (vxs X) = growFin (vxs Y) (growL k ((vxs X).drop i)) ∧ SinceOf w wr)
  case atStart => exact ⟨0, none, 0, 0, [], by omega, by omega, rfl, by omega, rfl, rfl, OwnRings.nil _ _, by rw [List.drop_zero]; exact (growFin_nil _ _).symm, by (repeat (first | (with_reducible exact SinceOf.refl _) | (with_reducible assumption) | (with_reducible refine SinceOf.alloc ?_ _) | (with_reducible refine SinceOf.drew ?_) | (with_reducible refine SinceOf.drewN ?_ _) | (with_reducible refine SinceOf.later ?_ _) | (with_reducible refine SinceOf.further ?_ _) | (with_reducible refine SinceOf.setCell ?_ (by first | exact Nat.le_refl _ | (simp; done) | omega | (simp; omega)) _)))⟩
  case round =>
    obtain ⟨i, A2, c2, n2, Y, hi, hgas, hn2, hni, rfl, rfl, ho, hg, ⟨z, rfl⟩⟩ := hrel
    have hzs := z.size
    by_cases hlt : i < X.length
    · have hX := H.out.of (w' := z.wd) (by (repeat (first | (with_reducible exact SinceOf.refl _) | (with_reducible assumption) | (with_reducible refine SinceOf.alloc ?_ _) | (with_reducible refine SinceOf.drew ?_) | (with_reducible refine SinceOf.drewN ?_ _) | (with_reducible refine SinceOf.later ?_ _) | (with_reducible refine SinceOf.further ?_ _) | (with_reducible refine SinceOf.setCell ?_ (by first | exact Nat.le_refl _ | (simp; done) | omega | (simp; omega)) _))))
      have hx := hX.all _ (List.getElem_mem hlt)
      obtain ⟨g, off, rfl, hr⟩ := hX.row.at_ (by omega)
      have hO := hr.there
      have k0 := hr.g0 i hlt
      have hdr : (vxs X).drop i = X[i].xs :: (vxs X).drop (i + 1) := by
        rw [List.drop_eq_getElem_cons (by rw [vxs_len]; exact hlt)]
        simp [vxs]
      rw [hdr] at hg
      generalize X[i] = x at *
      have HW := Lib.hid (widened_any x.A x.c x.xs k z.wd hx.1 hx.2 HK.out.1.1 HK.out.1.2)
      have HG := Lib.hid (And.intro hg (And.intro ho hn2))
      clear hg hdr hr hX hx ho hn2
      go_wp2_with fail
      refine HW.out.mono ?_
      rintro e _ ⟨A6, c6, r6, e6, rfl, hv6, hgf, ⟨y6, rfl⟩, hf6⟩
      clear HW
      by_cases he : e6 = 0
      · subst he
        obtain ⟨h3, hlr⟩ : 0 < r6.length ∧ r6.length ≤ 160 := by
          cases hcv : convexB x.xs
          · rw [growF_bad hcv] at hgf; cases hgf
          · have hR := hullF_res (sumsL x.xs (octR k))
            rw [← growF_ok hcv, hgf] at hR
            obtain ⟨hy, h160, -⟩ := hullRes_ok hR
            have h3 : 3 ≤ r6.length := hy.hull.three
            exact ⟨by omega, h160⟩
        have hfo := (growFin_ok (out := vxs Y) (l := (vxs X).drop (i + 1)) (show (growF k x.xs).2 = 0 by rw [hgf]))
        rw [hgf] at hfo
        have hg2 := HG.out.1
        rw [hfo] at hg2
        have HP := Lib.hid (And.intro hg2 (And.intro hf6 (And.intro hv6 HG.out.2)))
        clear hg2 hfo hf6 hv6 HG hgf
        have hYl := HP.out.2.2.2.2
        go_wp2_with (at_builtin; refine wpList_append_row rfl (.tmp 34) (.tmp 36) 52 rfl encG_len (by omega) encG_one i0 _ 24 Try.underlying52 HI.out.1 HI.out.2.1 HI.out.2.2.1 HI.out.2.2.2 rfl (l := Y) (A := A2) (c := c2) (base := w.heap.size) (by rw [← HP.out.2.2.2.2]; kernel_rfl) (HP.out.2.2.2.1.own.of (by (repeat (first | (with_reducible exact SinceOf.refl _) | (with_reducible assumption) | (with_reducible refine SinceOf.alloc ?_ _) | (with_reducible refine SinceOf.drew ?_) | (with_reducible refine SinceOf.drewN ?_ _) | (with_reducible refine SinceOf.later ?_ _) | (with_reducible refine SinceOf.further ?_ _) | (with_reducible refine SinceOf.setCell ?_ (by first | exact Nat.le_refl _ | (simp; done) | omega | (simp; omega)) _))))) (m := [⟨A6, c6, r6⟩]) rfl (isRow_atG _ _ ⟨A6, c6, r6⟩ (by first | rfl | simp)) (by rw [← HP.out.2.2.2.2]; unfold maxLen; simp; omega) (by rw [← HP.out.2.2.2.2]; simp; omega) (by have := y6.size; simp; omega) ?_; intro A7 c7 w7 ho7 hgr7 hb7)
        go_roundg (X.length - (i + 1))
        case measure => omega
        case rel =>
          have hs7 : SinceOf w w7 := SinceOf.grown (by (repeat (first | (with_reducible exact SinceOf.refl _) | (with_reducible assumption) | (with_reducible refine SinceOf.alloc ?_ _) | (with_reducible refine SinceOf.drew ?_) | (with_reducible refine SinceOf.drewN ?_ _) | (with_reducible refine SinceOf.later ?_ _) | (with_reducible refine SinceOf.further ?_ _) | (with_reducible refine SinceOf.setCell ?_ (by first | exact Nat.le_refl _ | (simp; done) | omega | (simp; omega)) _)))) hgr7 (fun q hq => (HP.out.2.2.2.1.own.below q hq).1)
          refine ⟨i + 1, A7, c7, n2 + 1, Y ++ [⟨A6, c6, r6⟩], hlt, Nat.le_refl _, (by rw [List.length_append, ← hYl]; try rfl), by omega, (by rw [← hYl]; try rfl), by go_num, ?_, by rw [show vxs (Y ++ [⟨A6, c6, r6⟩]) = vxs Y ++ [r6] by simp [vxs]]; exact HP.out.1, hs7⟩
          exact (HP.out.2.2.2.1.of (w' := y6.wd.alloc (.cells #[.slice A6 r6.length c6] 25)) (by (repeat (first | (with_reducible exact SinceOf.refl _) | (with_reducible assumption) | (with_reducible refine SinceOf.alloc ?_ _) | (with_reducible refine SinceOf.drew ?_) | (with_reducible refine SinceOf.drewN ?_ _) | (with_reducible refine SinceOf.later ?_ _) | (with_reducible refine SinceOf.further ?_ _) | (with_reducible refine SinceOf.setCell ?_ (by first | exact Nat.le_refl _ | (simp; done) | omega | (simp; omega)) _))))).push (x := ⟨A6, c6, r6⟩) (HP.out.2.2.1.of (by (repeat (first | (with_reducible exact SinceOf.refl _) | (with_reducible assumption) | (with_reducible refine SinceOf.alloc ?_ _) | (with_reducible refine SinceOf.drew ?_) | (with_reducible refine SinceOf.drewN ?_ _) | (with_reducible refine SinceOf.later ?_ _) | (with_reducible refine SinceOf.further ?_ _) | (with_reducible refine SinceOf.setCell ?_ (by first | exact Nat.le_refl _ | (simp; done) | omega | (simp; omega)) _))))) (by simp only; omega) (by simp only; omega) (fun b hb e => by have := HP.out.2.1 b hb; have := (HP.out.2.2.2.1.own.below b e).2; omega) ho7 hgr7 hb7
      · have hgb := growFin_bad (out := vxs Y) (l := (vxs X).drop (i + 1)) (show (growF k x.xs).2 ≠ 0 by rw [hgf]; exact he)
        rw [hgf] at hgb
        have hg2 := HG.out.1
        rw [hgb] at hg2
        have HP := Lib.hid hg2
        have g1 : (e6 != 0) = true := by simpa using he
        clear hg2 hgb hf6 hv6 HG hgf he
        go_wp2_with fail
        go_returns
        exact ⟨none, 0, [], e6, rfl, IsRings.nil _, HK.out.2.trans HP.out, by (repeat (first | (with_reducible exact SinceOf.refl _) | (with_reducible assumption) | (with_reducible refine SinceOf.alloc ?_ _) | (with_reducible refine SinceOf.drew ?_) | (with_reducible refine SinceOf.drewN ?_ _) | (with_reducible refine SinceOf.later ?_ _) | (with_reducible refine SinceOf.further ?_ _) | (with_reducible refine SinceOf.setCell ?_ (by first | exact Nat.le_refl _ | (simp; done) | omega | (simp; omega)) _)))⟩
    · obtain rfl : i = X.length := by omega
      rw [List.drop_of_length_le (by rw [vxs_len]; exact Nat.le_refl _), growFin_end] at hg
      have HP := Lib.hid (And.intro ho (And.intro hg hn2))
      clear ho hg hn2
      go_wp2_with fail
      go_returns
      have hl := HP.out.2.2
      exact ⟨A2, c2, Y, 0, by rw [hl]; rfl, HP.out.1.rings (by omega), HK.out.2.trans HP.out.2.1, by (repeat (first | (with_reducible exact SinceOf.refl _) | (with_reducible assumption) | (with_reducible refine SinceOf.alloc ?_ _) | (with_reducible refine SinceOf.drew ?_) | (with_reducible refine SinceOf.drewN ?_ _) | (with_reducible refine SinceOf.later ?_ _) | (with_reducible refine SinceOf.further ?_ _) | (with_reducible refine SinceOf.setCell ?_ (by first | exact Nat.le_refl _ | (simp; done) | omega | (simp; omega)) _)))⟩
end Go.Proofs.Yticmfmcflikneaa
