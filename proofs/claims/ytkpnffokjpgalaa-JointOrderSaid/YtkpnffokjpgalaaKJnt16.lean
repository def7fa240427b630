/- Layer 46: Valid of package ring. -/
import Derived.Test.YtkpnffokjpgalaaKJnt13
import Derived.Test.YtkpnffokjpgalaaKJntQ1
namespace Go.Proofs.Ytkpnffokjpgalaa
set_option linter.unusedVariables false
set_option linter.unusedSimpArgs false
open Go.RowKit Go.Sort
attribute [local go_sem ↓] Go.wp_at_zero Go.wp_at_succ

theorem near2_4 {p : Pt} (h : near2 p) : near4 p := by unfold near2 at h; unfold near4; omega
/-- How two edges of a ring meet, as the program asks it. -/
theorem edges_meet {r : List Pt} (hn : ∀ p ∈ r, near2 p) {i k : Nat} (hi : i < r.length) (hk : k < r.length) : (meetP (at0 r i, rv r (i + 1)) (at0 r k, rv r (k + 1))).1 = meetE r i k := by
  have n1 := near2_4 (hn _ (at0_mem hi))
  have n2 := near2_4 (hn _ (rv_mem (r := r) (i := i + 1) (by omega)))
  have n3 := near2_4 (hn _ (at0_mem hk))
  have n4 := near2_4 (hn _ (rv_mem (r := r) (i := k + 1) (by omega)))
  have a1 : segOk (at0 r i, rv r (i + 1)) = true := segOk_near.2 ⟨n1, n2⟩
  have a2 : segOk (at0 r k, rv r (k + 1)) = true := segOk_near.2 ⟨n3, n4⟩
  unfold meetP meetE
  rw [a1, a2]
  rfl
set_option maxRecDepth 100000 in
set_option maxHeartbeats 16000000 in
theorem ringValid_any (A : Option Addr) (c : Nat) (r : List (Int × Int)) (w : World) (h : IsVecs w A c r) (hlen : r.length < 4611686018427387904) :
    Yields Try.prog 17 #[.slice A r.length c] w (.bool (okB r)) := by
  apply Yields.ret
  have N := fun W (hW : SinceOf w W) => ringNear_any A c r W (h.of hW) hlen
  have H := Lib.hid h
  clear h
  generalize hres : okB r = res
  have HR := Lib.hid hres
  clear hres
  by_cases h3 : r.length < 3
  · have g1 : decide ((r.length : Int) < 3) = true := decide_eq_true (by omega)
    obtain rfl : res = false := by rw [← HR.out]; exact okB_len (by omega)
    clear h3 N
    go_enter Try.func17, Try.ntmps17
    go_wp2_with fail
    go_returns
    exact ⟨rfl, by (repeat (first | (with_reducible exact SinceOf.refl _) | (with_reducible assumption) | (with_reducible refine SinceOf.alloc ?_ _) | (with_reducible refine SinceOf.drew ?_) | (with_reducible refine SinceOf.drewN ?_ _) | (with_reducible refine SinceOf.later ?_ _) | (with_reducible refine SinceOf.further ?_ _) | (with_reducible refine SinceOf.setCell ?_ (by first | exact Nat.le_refl _ | (simp; done) | omega | (simp; omega)) _)))⟩
  have g1 : decide ((r.length : Int) < 3) = false := decide_eq_false (by omega)
  by_cases h40 : 40 < r.length
  · have g2 : decide (40 < (r.length : Int)) = true := decide_eq_true (by omega)
    obtain rfl : res = false := by rw [← HR.out]; exact okB_len (by omega)
    clear h3 h40 N
    go_enter Try.func17, Try.ntmps17
    go_wp2_with fail
    go_returns
    exact ⟨rfl, by (repeat (first | (with_reducible exact SinceOf.refl _) | (with_reducible assumption) | (with_reducible refine SinceOf.alloc ?_ _) | (with_reducible refine SinceOf.drew ?_) | (with_reducible refine SinceOf.drewN ?_ _) | (with_reducible refine SinceOf.later ?_ _) | (with_reducible refine SinceOf.further ?_ _) | (with_reducible refine SinceOf.setCell ?_ (by first | exact Nat.le_refl _ | (simp; done) | omega | (simp; omega)) _)))⟩
  have g2 : decide (40 < (r.length : Int)) = false := decide_eq_false (by omega)
  cases hn : nearR r
  · rw [hn] at N
    obtain rfl : res = false := by rw [← HR.out]; exact okB_near hn
    clear hn
    go_enter Try.func17, Try.ntmps17
    go_wp2_with fail
    refine (N _ (by (repeat (first | (with_reducible exact SinceOf.refl _) | (with_reducible assumption) | (with_reducible refine SinceOf.alloc ?_ _) | (with_reducible refine SinceOf.drew ?_) | (with_reducible refine SinceOf.drewN ?_ _) | (with_reducible refine SinceOf.later ?_ _) | (with_reducible refine SinceOf.further ?_ _) | (with_reducible refine SinceOf.setCell ?_ (by first | exact Nat.le_refl _ | (simp; done) | omega | (simp; omega)) _))))).calls.mono ?_
    rintro e _ ⟨rfl, x1, rfl⟩
    go_wp2_with fail
    go_returns
    exact ⟨rfl, by (repeat (first | (with_reducible exact SinceOf.refl _) | (with_reducible assumption) | (with_reducible refine SinceOf.alloc ?_ _) | (with_reducible refine SinceOf.drew ?_) | (with_reducible refine SinceOf.drewN ?_ _) | (with_reducible refine SinceOf.later ?_ _) | (with_reducible refine SinceOf.further ?_ _) | (with_reducible refine SinceOf.setCell ?_ (by first | exact Nat.le_refl _ | (simp; done) | omega | (simp; omega)) _)))⟩
  rw [hn] at N
  have AR := fun W (hW : SinceOf w W) => ringArea_any A c r W (H.out.of hW) (by omega) (nearR_all hn)
  by_cases ha : 0 < area2V r
  case neg =>
    have g3 : decide (area2V r ≤ 0) = true := decide_eq_true (by omega)
    obtain rfl : res = false := by rw [← HR.out]; exact okB_area ha
    generalize area2V r = ar at *
    clear hn ha
    go_enter Try.func17, Try.ntmps17
    go_wp2_with fail
    refine (N _ (by (repeat (first | (with_reducible exact SinceOf.refl _) | (with_reducible assumption) | (with_reducible refine SinceOf.alloc ?_ _) | (with_reducible refine SinceOf.drew ?_) | (with_reducible refine SinceOf.drewN ?_ _) | (with_reducible refine SinceOf.later ?_ _) | (with_reducible refine SinceOf.further ?_ _) | (with_reducible refine SinceOf.setCell ?_ (by first | exact Nat.le_refl _ | (simp; done) | omega | (simp; omega)) _))))).calls.mono ?_
    rintro e _ ⟨rfl, x1, rfl⟩
    go_wp2_with fail
    refine (AR _ (by (repeat (first | (with_reducible exact SinceOf.refl _) | (with_reducible assumption) | (with_reducible refine SinceOf.alloc ?_ _) | (with_reducible refine SinceOf.drew ?_) | (with_reducible refine SinceOf.drewN ?_ _) | (with_reducible refine SinceOf.later ?_ _) | (with_reducible refine SinceOf.further ?_ _) | (with_reducible refine SinceOf.setCell ?_ (by first | exact Nat.le_refl _ | (simp; done) | omega | (simp; omega)) _))))).calls.mono ?_
    rintro e _ ⟨rfl, x2, rfl⟩
    go_wp2_with fail
    go_returns
    exact ⟨rfl, by (repeat (first | (with_reducible exact SinceOf.refl _) | (with_reducible assumption) | (with_reducible refine SinceOf.alloc ?_ _) | (with_reducible refine SinceOf.drew ?_) | (with_reducible refine SinceOf.drewN ?_ _) | (with_reducible refine SinceOf.later ?_ _) | (with_reducible refine SinceOf.further ?_ _) | (with_reducible refine SinceOf.setCell ?_ (by first | exact Nat.le_refl _ | (simp; done) | omega | (simp; omega)) _)))⟩
  have g3 : decide (area2V r ≤ 0) = false := decide_eq_false (by omega)
  have E := fun W (hW : SinceOf w W) => ringEdges_any A c r W (H.out.of hW) (by omega)
  have NX := fun (j : Nat) (hj : j < r.length) W (hW : SinceOf w W) => ringNext_any A c r j W (H.out.of hW) (by omega) (by omega) (by omega)
  have LS := fun (j : Nat) (hj : j < r.length) W (hW : SinceOf w W) => ringLast_any A c r j W (H.out.of hW) (by omega) (by omega) (by omega)
  have HN := Lib.hid (And.intro ha (And.intro hn (And.intro NX (And.intro LS E))))
  generalize area2V r = ar at g3 AR
  clear hn ha NX LS E
  go_enter Try.func17, Try.ntmps17
  go_wp2_with fail
  refine (N _ (by (repeat (first | (with_reducible exact SinceOf.refl _) | (with_reducible assumption) | (with_reducible refine SinceOf.alloc ?_ _) | (with_reducible refine SinceOf.drew ?_) | (with_reducible refine SinceOf.drewN ?_ _) | (with_reducible refine SinceOf.later ?_ _) | (with_reducible refine SinceOf.further ?_ _) | (with_reducible refine SinceOf.setCell ?_ (by first | exact Nat.le_refl _ | (simp; done) | omega | (simp; omega)) _))))).calls.mono ?_
  rintro e _ ⟨rfl, x1, rfl⟩
  go_wp2_with fail
  refine (AR _ (by (repeat (first | (with_reducible exact SinceOf.refl _) | (with_reducible assumption) | (with_reducible refine SinceOf.alloc ?_ _) | (with_reducible refine SinceOf.drew ?_) | (with_reducible refine SinceOf.drewN ?_ _) | (with_reducible refine SinceOf.later ?_ _) | (with_reducible refine SinceOf.further ?_ _) | (with_reducible refine SinceOf.setCell ?_ (by first | exact Nat.le_refl _ | (simp; done) | omega | (simp; omega)) _))))).calls.mono ?_
  rintro e _ ⟨rfl, x2, rfl⟩
  clear N AR
  go_wp2_with fail
  clear g1 g2 g3
  go_loopg [29] r.length (fun gas s29 wr => ∃ i : Nat, i ≤ r.length ∧ r.length - i ≤ gas ∧ s29 = .int .i64 i ∧ SinceOf w wr ∧ ∀ j, j < i → det (rv r (j + r.length - 1)) (at0 r j) (rv r (j + 1)) ≠ 0)
  case atStart => exact ⟨0, by omega, by omega, rfl, by (repeat (first | (with_reducible exact SinceOf.refl _) | (with_reducible assumption) | (with_reducible refine SinceOf.alloc ?_ _) | (with_reducible refine SinceOf.drew ?_) | (with_reducible refine SinceOf.drewN ?_ _) | (with_reducible refine SinceOf.later ?_ _) | (with_reducible refine SinceOf.further ?_ _) | (with_reducible refine SinceOf.setCell ?_ (by first | exact Nat.le_refl _ | (simp; done) | omega | (simp; omega)) _))), fun j hj => absurd hj (by omega)⟩
  case round =>
    obtain ⟨i, hi, hgas, rfl, ⟨z, rfl⟩, hall⟩ := hrel
    by_cases hlt : i < r.length
    · have hr0 := H.out.of (w' := z.wd) (by (repeat (first | (with_reducible exact SinceOf.refl _) | (with_reducible assumption) | (with_reducible refine SinceOf.alloc ?_ _) | (with_reducible refine SinceOf.drew ?_) | (with_reducible refine SinceOf.drewN ?_ _) | (with_reducible refine SinceOf.later ?_ _) | (with_reducible refine SinceOf.further ?_ _) | (with_reducible refine SinceOf.setCell ?_ (by first | exact Nat.le_refl _ | (simp; done) | omega | (simp; omega)) _))))
      obtain ⟨g, off, rfl, hr⟩ := hr0.at_ (by omega)
      have hO := hr.there
      have a0 := hr.v0 i hlt
      have a1 := hr.v1 i hlt
      have N1 := fun W (hW : SinceOf z.wd W) => HN.out.2.2.1 i hlt W (SinceOf.trans ⟨z, rfl⟩ hW)
      have L1 := fun W (hW : SinceOf z.wd W) => HN.out.2.2.2.1 i hlt W (SinceOf.trans ⟨z, rfl⟩ hW)
      have T := turn_any (rv r (i + r.length - 1)).1 (rv r (i + r.length - 1)).2 (at0 r i).1 (at0 r i).2 (rv r (i + 1)).1 (rv r (i + 1)).2
      have ns := nearR_all HN.out.2.1
      rw [turn_det (near2_4 (ns _ (rv_mem (by omega)))) (near2_4 (ns _ (at0_mem hlt))) (near2_4 (ns _ (rv_mem (by omega))))] at T
      rw [show at0 r i = r[i] from at0_eq hlt] at T
      obtain ⟨bv, hbv⟩ : ∃ b, b = decide (det (rv r (i + r.length - 1)) (at0 r i) (rv r (i + 1)) = 0) := ⟨_, rfl⟩
      have hb2 : (cmpi (det (rv r (i + r.length - 1)) r[i] (rv r (i + 1))) 0 == 0) = bv := by
        rw [hbv, show at0 r i = r[i] from at0_eq hlt]
        exact Bool.eq_iff_iff.2 (by simp only [beq_iff_eq, decide_eq_true_eq, cmpi_zero])
      have HS := Lib.hid (And.intro hall hbv)
      generalize cmpi (det (rv r (i + r.length - 1)) r[i] (rv r (i + 1))) 0 = tv at *
      generalize (rv r (i + 1)).1 = bx at *
      generalize (rv r (i + 1)).2 = by_ at *
      generalize (rv r (i + r.length - 1)).1 = cx at *
      generalize (rv r (i + r.length - 1)).2 = cy at *
      generalize r[i].1 = ax at *
      generalize r[i].2 = ay at *
      clear hr hr0 hall hbv ns
      go_wp2_with fail
      refine region_later (by kernel_rfl) (by kernel_rfl) ?_
      repeat (go_big_quiet_step ((first | (with_reducible refine Gives.later (N1 _ (by (repeat (first | (with_reducible exact SinceOf.refl _) | (with_reducible assumption) | (with_reducible refine SinceOf.alloc ?_ _) | (with_reducible refine SinceOf.drew ?_) | (with_reducible refine SinceOf.drewN ?_ _) | (with_reducible refine SinceOf.later ?_ _) | (with_reducible refine SinceOf.further ?_ _) | (with_reducible refine SinceOf.setCell ?_ (by first | exact Nat.le_refl _ | (simp; done) | omega | (simp; omega)) _)))))) | (with_reducible refine Gives.later (L1 _ (by (repeat (first | (with_reducible exact SinceOf.refl _) | (with_reducible assumption) | (with_reducible refine SinceOf.alloc ?_ _) | (with_reducible refine SinceOf.drew ?_) | (with_reducible refine SinceOf.drewN ?_ _) | (with_reducible refine SinceOf.later ?_ _) | (with_reducible refine SinceOf.further ?_ _) | (with_reducible refine SinceOf.setCell ?_ (by first | exact Nat.le_refl _ | (simp; done) | omega | (simp; omega)) _)))))) | (with_reducible refine Gives.later (T _)))))
      refine wpQuiet_nil ?_
      rintro _ ⟨z4, rfl⟩
      clear N1 L1 T
      cases bv
      · go_wp2_with fail
        go_roundg (r.length - (i + 1))
        case measure => omega
        case rel => exact ⟨i + 1, hlt, Nat.le_refl _, by go_num, by (repeat (first | (with_reducible exact SinceOf.refl _) | (with_reducible assumption) | (with_reducible refine SinceOf.alloc ?_ _) | (with_reducible refine SinceOf.drew ?_) | (with_reducible refine SinceOf.drewN ?_ _) | (with_reducible refine SinceOf.later ?_ _) | (with_reducible refine SinceOf.further ?_ _) | (with_reducible refine SinceOf.setCell ?_ (by first | exact Nat.le_refl _ | (simp; done) | omega | (simp; omega)) _))), fun j hj => by
          rcases Nat.lt_or_ge j i with q | q
          · exact HS.out.1 j q
          · obtain rfl : j = i := by omega
            exact of_decide_eq_false HS.out.2.symm⟩
      · obtain rfl : res = false := by rw [← HR.out]; exact okB_turn (by omega) hlt (of_decide_eq_true HS.out.2.symm)
        go_wp2_with fail
        go_returns
        exact ⟨rfl, by (repeat (first | (with_reducible exact SinceOf.refl _) | (with_reducible assumption) | (with_reducible refine SinceOf.alloc ?_ _) | (with_reducible refine SinceOf.drew ?_) | (with_reducible refine SinceOf.drewN ?_ _) | (with_reducible refine SinceOf.later ?_ _) | (with_reducible refine SinceOf.further ?_ _) | (with_reducible refine SinceOf.setCell ?_ (by first | exact Nat.le_refl _ | (simp; done) | omega | (simp; omega)) _)))⟩
    · obtain rfl : i = r.length := by omega
      have HT := Lib.hid ((turns_around (show 3 ≤ r.length by omega)).1 hall)
      have E := HN.out.2.2.2.2 z.wd (by (repeat (first | (with_reducible exact SinceOf.refl _) | (with_reducible assumption) | (with_reducible refine SinceOf.alloc ?_ _) | (with_reducible refine SinceOf.drew ?_) | (with_reducible refine SinceOf.drewN ?_ _) | (with_reducible refine SinceOf.later ?_ _) | (with_reducible refine SinceOf.further ?_ _) | (with_reducible refine SinceOf.setCell ?_ (by first | exact Nat.le_refl _ | (simp; done) | omega | (simp; omega)) _))))
      have HN2 := Lib.hid (And.intro HN.out.1 HN.out.2.1)
      clear hall HN
      go_wp2_with fail
      refine E.mono ?_
      rintro e _ ⟨A4, c4, rfl, ho4, ⟨x4, rfl⟩⟩
      have hel : (edgesV r).length = r.length := edgesV_len (by omega)
      have H4 := Lib.hid (And.intro ho4 hel)
      clear ho4 hel E
      go_wp2_with fail
      go_loopg [47] r.length (fun gas s47 wr => ∃ i : Nat, i ≤ r.length ∧ r.length - i ≤ gas ∧ s47 = .int .i64 i ∧ SinceOf x4.wd wr ∧ ∀ i' k, i' < i → k < r.length → farE r.length i' k → meetE r i' k = 0)
      case atStart => exact ⟨0, by omega, by omega, rfl, by (repeat (first | (with_reducible exact SinceOf.refl _) | (with_reducible assumption) | (with_reducible refine SinceOf.alloc ?_ _) | (with_reducible refine SinceOf.drew ?_) | (with_reducible refine SinceOf.drewN ?_ _) | (with_reducible refine SinceOf.later ?_ _) | (with_reducible refine SinceOf.further ?_ _) | (with_reducible refine SinceOf.setCell ?_ (by first | exact Nat.le_refl _ | (simp; done) | omega | (simp; omega)) _))), fun i' k h1 h2 h3 => absurd h1 (by omega)⟩
      case round =>
        obtain ⟨i, hi, hgas2, rfl, ⟨y, rfl⟩, hall⟩ := hrel
        have HA := Lib.hid hall
        clear hall
        by_cases hlt2 : i < r.length
        · go_wp2_with fail
          go_loopg [8] r.length (fun gas s8 wr => ∃ k : Nat, i < k ∧ k ≤ r.length ∧ r.length - k ≤ gas ∧ s8 = .int .i64 k ∧ SinceOf y.wd wr ∧ ∀ k', k' < k → farE r.length i k' → meetE r i k' = 0)
          case atStart => exact ⟨i + 1, by omega, by omega, by omega, by go_num, by (repeat (first | (with_reducible exact SinceOf.refl _) | (with_reducible assumption) | (with_reducible refine SinceOf.alloc ?_ _) | (with_reducible refine SinceOf.drew ?_) | (with_reducible refine SinceOf.drewN ?_ _) | (with_reducible refine SinceOf.later ?_ _) | (with_reducible refine SinceOf.further ?_ _) | (with_reducible refine SinceOf.setCell ?_ (by first | exact Nat.le_refl _ | (simp; done) | omega | (simp; omega)) _))), fun k' h1 h2 => absurd h2.1 (by omega)⟩
          case round =>
            obtain ⟨k, hik, hk, hgas3, rfl, ⟨v, rfl⟩, hall⟩ := hrel
            by_cases hlt3 : k < r.length
            · obtain ⟨fb, hfb⟩ : ∃ b, b = decide (farE r.length i k) := ⟨_, rfl⟩
              have M := segMeet_any (at0 r i, rv r (i + 1)) (at0 r k, rv r (k + 1))
              rw [edges_meet (nearR_all HN2.out.2) hlt2 hlt3] at M
              change ∀ w, Gives _ _ #[sg (at0 r i).1 (at0 r i).2 (rv r (i + 1)).1 (rv r (i + 1)).2, sg (at0 r k).1 (at0 r k).2 (rv r (k + 1)).1 (rv r (k + 1)).2] w _ at M
              obtain ⟨mb, hmb⟩ : ∃ b, b = decide (meetE r i k = 0) := ⟨_, rfl⟩
              have hm2 : (meetE r i k != 0) = !mb := by
                rw [hmb]; exact Bool.eq_iff_iff.2 (by simp)
              have row := (H4.out.1.isRow encE_len).of (w' := v.wd) (SinceOf.trans ⟨y, rfl⟩ ⟨v, rfl⟩)
              obtain ⟨g, off, rfl, hr⟩ := row.at_ (by rw [H4.out.2]; omega)
              have hO := hr.there
              have h2e : ¬ r.length < 2 := by omega
              have hie : i < (edgesV r).length := by rw [H4.out.2]; exact hlt2
              have hke : k < (edgesV r).length := by rw [H4.out.2]; exact hlt3
              have b0 := hr.e0 i hie
              have b1 := hr.e1 i hie
              have b2 := hr.e2 i hie
              have b3 := hr.e3 i hie
              have d0 := hr.e0 k hke
              have d1 := hr.e1 k hke
              have d2 := hr.e2 k hke
              have d3 := hr.e3 k hke
              rw [edgesV_at h2e hlt2] at b0 b1 b2 b3
              rw [edgesV_at h2e hlt3] at d0 d1 d2 d3
              have hel := H4.out.2
              simp only at b0 b1 b2 b3 d0 d1 d2 d3
              have HS := Lib.hid (And.intro hall (And.intro hfb hmb))
              clear hall hfb hmb row hr hie hke
              generalize meetE r i k = m at M hm2
              generalize (at0 r i).1 = p0 at *
              generalize (at0 r i).2 = p1 at *
              generalize (rv r (i + 1)).1 = p2 at *
              generalize (rv r (i + 1)).2 = p3 at *
              generalize (at0 r k).1 = q0 at *
              generalize (at0 r k).2 = q1 at *
              generalize (rv r (k + 1)).1 = q2 at *
              generalize (rv r (k + 1)).2 = q3 at *
              generalize edgesV r = ED at *
              obtain ⟨n, hn⟩ : ∃ n, n = r.length := ⟨_, rfl⟩
              have hw1 : IntKind.i64.wrap ((i : Int) + 1) = (i : Int) + 1 := IntWalk.i64_in _ (by omega)
              have hw2 : IntKind.i64.wrap ((r.length : Int) - 1) = (r.length : Int) - 1 := IntWalk.i64_in _ (by omega)
              have ie1 : decide ((0 : Int) ≤ (i : Int)) = true := decide_eq_true (by omega)
              go_upto_region 17 with fail
              go_cut [82] from 57 to 82 (fun s82 wx => s82 = .bool (fb && !mb) ∧ SinceOf v.wd wx)
              case first =>
                by_cases c1 : k = i + 1
                · have f1 : ((k : Int) != (i : Int) + 1) = false := by simp; omega
                  have ff : fb = false := by rw [HS.out.2.1]; exact decide_eq_false (fun e => e.2.1 c1)
                  have HF := Lib.hid ff
                  clear ff c1 M
                  refine region_later (by kernel_rfl) (by kernel_rfl) ?_
                  repeat (go_big_quiet_step (fail))
                  refine wpQuiet_nil ?_
                  rintro _ ⟨v4, rfl⟩
                  go_wp2_with fail
                  go_meet
                  exact ⟨by rw [HF.out]; rfl, by (repeat (first | (with_reducible exact SinceOf.refl _) | (with_reducible assumption) | (with_reducible refine SinceOf.alloc ?_ _) | (with_reducible refine SinceOf.drew ?_) | (with_reducible refine SinceOf.drewN ?_ _) | (with_reducible refine SinceOf.later ?_ _) | (with_reducible refine SinceOf.further ?_ _) | (with_reducible refine SinceOf.setCell ?_ (by first | exact Nat.le_refl _ | (simp; done) | omega | (simp; omega)) _)))⟩
                have f1 : ((k : Int) != (i : Int) + 1) = true := by simp; omega
                by_cases c2 : i = 0
                · have f2 : ((i : Int) != 0) = false := by simp; omega
                  by_cases c3 : k = r.length - 1
                  · have f3 : ((k : Int) != (r.length : Int) - 1) = false := by simp; omega
                    have ff : fb = false := by rw [HS.out.2.1]; exact decide_eq_false (fun e => by have := e.2.2; omega)
                    have HF := Lib.hid ff
                    clear ff c1 c2 c3 M
                    refine region_later (by kernel_rfl) (by kernel_rfl) ?_
                    repeat (go_big_quiet_step (fail))
                    refine wpQuiet_nil ?_
                    rintro _ ⟨v4, rfl⟩
                    go_wp2_with fail
                    go_meet
                    exact ⟨by rw [HF.out]; rfl, by (repeat (first | (with_reducible exact SinceOf.refl _) | (with_reducible assumption) | (with_reducible refine SinceOf.alloc ?_ _) | (with_reducible refine SinceOf.drew ?_) | (with_reducible refine SinceOf.drewN ?_ _) | (with_reducible refine SinceOf.later ?_ _) | (with_reducible refine SinceOf.further ?_ _) | (with_reducible refine SinceOf.setCell ?_ (by first | exact Nat.le_refl _ | (simp; done) | omega | (simp; omega)) _)))⟩
                  · have f3 : ((k : Int) != (r.length : Int) - 1) = true := by simp; omega
                    have ff : fb = true := by rw [HS.out.2.1]; exact decide_eq_true ⟨hik, c1, .inr c3⟩
                    have HF := Lib.hid ff
                    clear ff c1 c2 c3
                    refine region_later (by kernel_rfl) (by kernel_rfl) ?_
                    repeat (go_big_quiet_step (((with_reducible refine Gives.later (M _)))))
                    refine wpQuiet_nil ?_
                    rintro _ ⟨v4, rfl⟩
                    go_wp2_with fail
                    go_meet
                    exact ⟨by rw [HF.out]; first | rfl | simp, by (repeat (first | (with_reducible exact SinceOf.refl _) | (with_reducible assumption) | (with_reducible refine SinceOf.alloc ?_ _) | (with_reducible refine SinceOf.drew ?_) | (with_reducible refine SinceOf.drewN ?_ _) | (with_reducible refine SinceOf.later ?_ _) | (with_reducible refine SinceOf.further ?_ _) | (with_reducible refine SinceOf.setCell ?_ (by first | exact Nat.le_refl _ | (simp; done) | omega | (simp; omega)) _)))⟩
                · have f2 : ((i : Int) != 0) = true := by simp; omega
                  have ff : fb = true := by rw [HS.out.2.1]; exact decide_eq_true ⟨hik, c1, .inl c2⟩
                  have HF := Lib.hid ff
                  clear ff c1 c2
                  refine region_later (by kernel_rfl) (by kernel_rfl) ?_
                  repeat (go_big_quiet_step (((with_reducible refine Gives.later (M _)))))
                  refine wpQuiet_nil ?_
                  rintro _ ⟨v4, rfl⟩
                  go_wp2_with fail
                  go_meet
                  exact ⟨by rw [HF.out]; first | rfl | simp, by (repeat (first | (with_reducible exact SinceOf.refl _) | (with_reducible assumption) | (with_reducible refine SinceOf.alloc ?_ _) | (with_reducible refine SinceOf.drew ?_) | (with_reducible refine SinceOf.drewN ?_ _) | (with_reducible refine SinceOf.later ?_ _) | (with_reducible refine SinceOf.further ?_ _) | (with_reducible refine SinceOf.setCell ?_ (by first | exact Nat.le_refl _ | (simp; done) | omega | (simp; omega)) _)))⟩
              case rest =>
                obtain ⟨rfl, ⟨v5, rfl⟩⟩ := hcut
                clear M b0 b1 b2 b3 d0 d1 d2 d3 hw1 hw2 ie1 hm2
                obtain ⟨bb, hbb⟩ : ∃ b, b = (fb && !mb) := ⟨_, rfl⟩
                rw [← hbb]
                have HB := Lib.hid hbb
                clear hbb
                cases bb
                · have hf := HB.out
                  have key2 : farE r.length i k → meetE r i k = 0 := fun e => by
                    have q1 : fb = true := by rw [HS.out.2.1]; exact decide_eq_true e
                    rw [q1, Bool.true_and] at hf
                    have q2 : mb = true := by cases mb; · cases hf
                                              · rfl
                    exact of_decide_eq_true (HS.out.2.2 ▸ q2)
                  have HK := Lib.hid key2
                  clear hf key2
                  go_wp2_with fail
                  go_roundg (r.length - (k + 1))
                  case measure => omega
                  case rel => exact ⟨k + 1, by omega, hlt3, Nat.le_refl _, by go_num, by (repeat (first | (with_reducible exact SinceOf.refl _) | (with_reducible assumption) | (with_reducible refine SinceOf.alloc ?_ _) | (with_reducible refine SinceOf.drew ?_) | (with_reducible refine SinceOf.drewN ?_ _) | (with_reducible refine SinceOf.later ?_ _) | (with_reducible refine SinceOf.further ?_ _) | (with_reducible refine SinceOf.setCell ?_ (by first | exact Nat.le_refl _ | (simp; done) | omega | (simp; omega)) _))), fun k' h1 h2 => by
                    rcases Nat.lt_or_ge k' k with q | q
                    · exact HS.out.1 k' q h2
                    · obtain rfl : k' = k := by omega
                      exact HK.out h2⟩
                · have hf := HB.out.symm
                  rw [Bool.and_eq_true] at hf
                  obtain rfl : res = false := by
                    rw [← HR.out]
                    refine okB_far hlt3 (of_decide_eq_true (HS.out.2.1 ▸ hf.1)) (fun e => ?_)
                    have := HS.out.2.2
                    rw [e] at this
                    rw [this] at hf
                    simp at hf
                  clear hf
                  go_wp2_with fail
                  go_returns
                  exact ⟨rfl, by (repeat (first | (with_reducible exact SinceOf.refl _) | (with_reducible assumption) | (with_reducible refine SinceOf.alloc ?_ _) | (with_reducible refine SinceOf.drew ?_) | (with_reducible refine SinceOf.drewN ?_ _) | (with_reducible refine SinceOf.later ?_ _) | (with_reducible refine SinceOf.further ?_ _) | (with_reducible refine SinceOf.setCell ?_ (by first | exact Nat.le_refl _ | (simp; done) | omega | (simp; omega)) _)))⟩
            · obtain rfl : k = r.length := by omega
              have HB := Lib.hid hall
              clear hall
              go_wp2_with fail
              go_roundg (r.length - (i + 1))
              case measure => omega
              case rel => exact ⟨i + 1, hlt2, Nat.le_refl _, by go_num, by (repeat (first | (with_reducible exact SinceOf.refl _) | (with_reducible assumption) | (with_reducible refine SinceOf.alloc ?_ _) | (with_reducible refine SinceOf.drew ?_) | (with_reducible refine SinceOf.drewN ?_ _) | (with_reducible refine SinceOf.later ?_ _) | (with_reducible refine SinceOf.further ?_ _) | (with_reducible refine SinceOf.setCell ?_ (by first | exact Nat.le_refl _ | (simp; done) | omega | (simp; omega)) _))), fun i' k h1 h2 h3 => by
                rcases Nat.lt_or_ge i' i with q | q
                · exact HA.out i' k q h2 h3
                · obtain rfl : i' = i := by omega
                  exact HB.out k h2 h3⟩
        · obtain rfl : i = r.length := by omega
          obtain rfl : res = true := by
            rw [← HR.out, okB_iff]
            exact ⟨by omega, by omega, List.all_eq_true.1 HN2.out.2, HT.out, fun i' k hk hf => HA.out i' k (by have := hf.1; omega) hk hf, HN2.out.1⟩
          go_wp2_with fail
          go_returns
          exact ⟨rfl, by (repeat (first | (with_reducible exact SinceOf.refl _) | (with_reducible assumption) | (with_reducible refine SinceOf.alloc ?_ _) | (with_reducible refine SinceOf.drew ?_) | (with_reducible refine SinceOf.drewN ?_ _) | (with_reducible refine SinceOf.later ?_ _) | (with_reducible refine SinceOf.further ?_ _) | (with_reducible refine SinceOf.setCell ?_ (by first | exact Nat.le_refl _ | (simp; done) | omega | (simp; omega)) _)))⟩
end Go.Proofs.Ytkpnffokjpgalaa
/- Layer 46: within, Signed and Valid of the reference of layer 8. -/
namespace Go.Proofs.Ytkpnffokjpgalaa
set_option linter.unusedVariables false
set_option linter.unusedSimpArgs false
open Go.RowKit Go.Sort
attribute [local go_sem ↓] Go.wp_at_zero Go.wp_at_succ

end Go.Proofs.Ytkpnffokjpgalaa
/- Layer 46: Valid of the reference of layer 8. -/
namespace Go.Proofs.Ytkpnffokjpgalaa
set_option linter.unusedVariables false
set_option linter.unusedSimpArgs false
open Go.RowKit Go.Sort
attribute [local go_sem ↓] Go.wp_at_zero Go.wp_at_succ

theorem edges_meetI {r : List Pt} (hn : ∀ p ∈ r, near2 p) {i k : Nat} (hi : i < r.length) (hk : k < r.length) : meetI (at0 r i, rv r (i + 1)) (at0 r k, rv r (k + 1)) = meetE r i k := by
  have n1 := near2_4 (hn _ (at0_mem hi))
  have n2 := near2_4 (hn _ (rv_mem (r := r) (i := i + 1) (by omega)))
  have n3 := near2_4 (hn _ (at0_mem hk))
  have n4 := near2_4 (hn _ (rv_mem (r := r) (i := k + 1) (by omega)))
  exact meetI_K (segOk_near.2 ⟨n1, n2⟩) (segOk_near.2 ⟨n3, n4⟩)
/-- Is the pair of edges as the reference wants it? -/
def adjB (n i k : Nat) : Bool := decide (k = i + 1 ∨ i = 0 ∧ k = n - 1)
theorem pairR_adj {r : List Pt} {i k : Nat} : pairR r i k ↔ (adjB r.length i k = true ∧ meetE r i k = 1) ∨ (adjB r.length i k = false ∧ meetE r i k = 0) := by
  unfold pairR adjB meetE
  by_cases h : k = i + 1 ∨ i = 0 ∧ k = r.length - 1
  · rw [if_pos h, decide_eq_true h]; simp
  · rw [if_neg h, decide_eq_false h]; simp
end Go.Proofs.Ytkpnffokjpgalaa
/- Layer 46: Length of the program and of the reference; Share of the reference of layer 7. -/
namespace Go.Proofs.Ytkpnffokjpgalaa
set_option linter.unusedVariables false
set_option linter.unusedSimpArgs false
open Go.RowKit Go.Sort
attribute [local go_sem ↓] Go.wp_at_zero Go.wp_at_succ

def normE (s : SegP) : Int := imax (iabs (wsub s.2.1 s.1.1)) (iabs (wsub s.2.2 s.1.2))
def lenE (l : List SegP) : Int := l.foldl (fun n s => wadd n (normE s)) 0
theorem lenE_succ {l : List SegP} {i : Nat} (h : i < l.length) : lenE (l.take (i + 1)) = wadd (lenE (l.take i)) (normE l[i]) := by
  unfold lenE
  rw [List.take_succ_eq_append_getElem h, List.foldl_append]
  rfl
set_option maxRecDepth 100000 in
set_option maxHeartbeats 8000000 in
theorem length_any (A : Option Addr) (c : Nat) (l : List SegP) (w : World) (h : IsSegs w A c l) (hlen : l.length < 4611686018427387904) :
    Gives Try.prog 7 #[.slice A l.length c] w (.int .i64 (lenE l)) := by
  apply Gives.ret
  have H := Lib.hid h
  clear h
  go_enter Try.func7, Try.ntmps7
  go_wp2_with fail
  go_loopg [3, 8] l.length (fun gas s3 s8 wr => ∃ (i : Nat) (n : Int), i ≤ l.length ∧ l.length - i ≤ gas ∧ s3 = .int .i64 n ∧ n = lenE (l.take i) ∧ s8 = .int .i64 i ∧ LaterOf w wr)
  case atStart => exact ⟨0, 0, by omega, by omega, rfl, rfl, rfl, by (repeat (first | (with_reducible exact LaterOf.refl _) | (with_reducible refine LaterOf.alloc ?_ _) | (with_reducible refine LaterOf.drew ?_) | (with_reducible refine LaterOf.drewN ?_ _) | (with_reducible refine LaterOf.later ?_ _) | (with_reducible refine LaterOf.setCell ?_ (by first | exact Nat.le_refl _ | (simp; done) | omega | (simp; omega)) _)))⟩
  case round =>
    obtain ⟨i, n, hi, hgas, rfl, hn, rfl, ⟨z, rfl⟩⟩ := hrel
    by_cases hlt : i < l.length
    · have hr0 := H.out.of (w' := z.wd) (by (repeat (first | (with_reducible exact SinceOf.refl _) | (with_reducible assumption) | (with_reducible refine SinceOf.alloc ?_ _) | (with_reducible refine SinceOf.drew ?_) | (with_reducible refine SinceOf.drewN ?_ _) | (with_reducible refine SinceOf.later ?_ _) | (with_reducible refine SinceOf.further ?_ _) | (with_reducible refine SinceOf.setCell ?_ (by first | exact Nat.le_refl _ | (simp; done) | omega | (simp; omega)) _))))
      obtain ⟨g, off, rfl, hr⟩ := hr0.at_ (by omega)
      have hO := hr.there
      have a0 := hr.e0 i hlt
      have a1 := hr.e1 i hlt
      have a2 := hr.e2 i hlt
      have a3 := hr.e3 i hlt
      have S1 := sub_any l[i].2.1 l[i].2.2 l[i].1.1 l[i].1.2
      have M1 := maxNorm_any (wsub l[i].2.1 l[i].1.1) (wsub l[i].2.2 l[i].1.2)
      have hs := lenE_succ hlt
      rw [← hn] at hs
      change ∀ w, Gives _ _ _ w (.int .i64 (normE l[i])) at M1
      have HS := Lib.hid (And.intro hs hn)
      generalize normE l[i] = t at *
      generalize wsub l[i].2.1 l[i].1.1 = ux at *
      generalize wsub l[i].2.2 l[i].1.2 = uy at *
      generalize l[i].1.1 = ax at *
      generalize l[i].1.2 = ay at *
      generalize l[i].2.1 = bx at *
      generalize l[i].2.2 = by_ at *
      clear hr hr0 hs hn
      go_wp2_with fail
      refine (S1 _).calls.mono ?_
      rintro e _ ⟨rfl, x1, rfl⟩
      go_wp2_with fail
      refine (M1 _).calls.mono ?_
      rintro e _ ⟨rfl, x2, rfl⟩
      go_wp2_with fail
      go_roundg (l.length - (i + 1))
      case measure => omega
      case rel => exact ⟨i + 1, wadd n t, hlt, Nat.le_refl _, rfl, HS.out.1.symm, by go_num, by (repeat (first | (with_reducible exact LaterOf.refl _) | (with_reducible refine LaterOf.alloc ?_ _) | (with_reducible refine LaterOf.drew ?_) | (with_reducible refine LaterOf.drewN ?_ _) | (with_reducible refine LaterOf.later ?_ _) | (with_reducible refine LaterOf.setCell ?_ (by first | exact Nat.le_refl _ | (simp; done) | omega | (simp; omega)) _)))⟩
    · obtain rfl : i = l.length := by omega
      rw [List.take_length] at hn
      subst hn
      go_wp2_with fail
      go_returns
      exact ⟨rfl, by (repeat (first | (with_reducible exact LaterOf.refl _) | (with_reducible refine LaterOf.alloc ?_ _) | (with_reducible refine LaterOf.drew ?_) | (with_reducible refine LaterOf.drewN ?_ _) | (with_reducible refine LaterOf.later ?_ _) | (with_reducible refine LaterOf.setCell ?_ (by first | exact Nat.le_refl _ | (simp; done) | omega | (simp; omega)) _)))⟩
set_option maxRecDepth 100000 in
set_option maxHeartbeats 8000000 in
theorem refLength_any (A : Option Addr) (c : Nat) (l : List SegP) (w : World) (h : IsSegs w A c l) (hlen : l.length < 4611686018427387904) :
    Gives Try.prog 22 #[.slice A l.length c] w (.int .i64 (lenE l)) := by
  apply Gives.ret
  have H := Lib.hid h
  clear h
  go_enter Try.func22, Try.ntmps22
  go_wp2_with fail
  go_loopg [3, 4] l.length (fun gas s3 s8 wr => ∃ (i : Nat) (n : Int), i ≤ l.length ∧ l.length - i ≤ gas ∧ s3 = .int .i64 n ∧ n = lenE (l.take i) ∧ s8 = .int .i64 i ∧ LaterOf w wr)
  case atStart => exact ⟨0, 0, by omega, by omega, rfl, rfl, rfl, by (repeat (first | (with_reducible exact LaterOf.refl _) | (with_reducible refine LaterOf.alloc ?_ _) | (with_reducible refine LaterOf.drew ?_) | (with_reducible refine LaterOf.drewN ?_ _) | (with_reducible refine LaterOf.later ?_ _) | (with_reducible refine LaterOf.setCell ?_ (by first | exact Nat.le_refl _ | (simp; done) | omega | (simp; omega)) _)))⟩
  case round =>
    obtain ⟨i, n, hi, hgas, rfl, hn, rfl, ⟨z, rfl⟩⟩ := hrel
    by_cases hlt : i < l.length
    · have hr0 := H.out.of (w' := z.wd) (by (repeat (first | (with_reducible exact SinceOf.refl _) | (with_reducible assumption) | (with_reducible refine SinceOf.alloc ?_ _) | (with_reducible refine SinceOf.drew ?_) | (with_reducible refine SinceOf.drewN ?_ _) | (with_reducible refine SinceOf.later ?_ _) | (with_reducible refine SinceOf.further ?_ _) | (with_reducible refine SinceOf.setCell ?_ (by first | exact Nat.le_refl _ | (simp; done) | omega | (simp; omega)) _))))
      obtain ⟨g, off, rfl, hr⟩ := hr0.at_ (by omega)
      have hO := hr.there
      have a0 := hr.e0 i hlt
      have a1 := hr.e1 i hlt
      have a2 := hr.e2 i hlt
      have a3 := hr.e3 i hlt
      have S1 := refSub_any l[i].2.1 l[i].2.2 l[i].1.1 l[i].1.2
      have M1 := refMaxNorm_any (wsub l[i].2.1 l[i].1.1) (wsub l[i].2.2 l[i].1.2)
      have hs := lenE_succ hlt
      rw [← hn] at hs
      change ∀ w, Gives _ _ _ w (.int .i64 (normE l[i])) at M1
      obtain ⟨n2, hn2⟩ : ∃ n2, n2 = wadd n (normE l[i]) := ⟨_, rfl⟩
      have w1 : IntKind.i64.wrap (n + normE l[i]) = n2 := by rw [hn2]; exact IntWalk.i64_left _
      rw [← hn2] at hs
      have HS := Lib.hid (And.intro hs hn)
      clear hn2
      generalize normE l[i] = t at *
      generalize wsub l[i].2.1 l[i].1.1 = ux at *
      generalize wsub l[i].2.2 l[i].1.2 = uy at *
      generalize l[i].1.1 = ax at *
      generalize l[i].1.2 = ay at *
      generalize l[i].2.1 = bx at *
      generalize l[i].2.2 = by_ at *
      clear hr hr0 hs hn
      go_wp2_with fail
      refine region_later (by kernel_rfl) (by kernel_rfl) ?_
      repeat (go_big_quiet_step ((first | (with_reducible refine Gives.later (S1 _)) | (with_reducible refine Gives.later (M1 _)))))
      refine wpQuiet_nil ?_
      rintro _ ⟨z4, rfl⟩
      go_wp2_with fail
      go_roundg (l.length - (i + 1))
      case measure => omega
      case rel => exact ⟨i + 1, n2, hlt, Nat.le_refl _, rfl, HS.out.1.symm, by go_num, by (repeat (first | (with_reducible exact LaterOf.refl _) | (with_reducible refine LaterOf.alloc ?_ _) | (with_reducible refine LaterOf.drew ?_) | (with_reducible refine LaterOf.drewN ?_ _) | (with_reducible refine LaterOf.later ?_ _) | (with_reducible refine LaterOf.setCell ?_ (by first | exact Nat.le_refl _ | (simp; done) | omega | (simp; omega)) _)))⟩
    · obtain rfl : i = l.length := by omega
      rw [List.take_length] at hn
      subst hn
      go_wp2_with fail
      go_returns
      exact ⟨rfl, by (repeat (first | (with_reducible exact LaterOf.refl _) | (with_reducible refine LaterOf.alloc ?_ _) | (with_reducible refine LaterOf.drew ?_) | (with_reducible refine LaterOf.drewN ?_ _) | (with_reducible refine LaterOf.later ?_ _) | (with_reducible refine LaterOf.setCell ?_ (by first | exact Nat.le_refl _ | (simp; done) | omega | (simp; omega)) _)))⟩
theorem meetP_range (s t : SegP) : (meetP s t).1 = 3 ∨ (meetP s t).1 ≠ 3 ∧ (meetP s t).2 = noSeg := by
  unfold meetP
  split
  · unfold meetK
    split
    · right; refine ⟨?_, rfl⟩
      simp only
      split
      · split <;> simp
      · simp
    · split
      · right; simp
      · split
        · right; simp
        · split
          · right; simp
          · split
            · right; simp
            · split
              · left; rfl
              · right; simp
  · right; simp
end Go.Proofs.Ytkpnffokjpgalaa
/- Layer 46: rows that stand apart; Share of the program and of the reference. -/
namespace Go.Proofs.Ytkpnffokjpgalaa
set_option linter.unusedVariables false
set_option linter.unusedSimpArgs false
open Go.RowKit Go.Sort
attribute [local go_sem ↓] Go.wp_at_zero Go.wp_at_succ

/-- Two rows do not lie in one block. -/
def Apt (A B : Option Addr) : Prop := ∀ b, blockOf A = some b → blockOf B ≠ some b
theorem Apt.symm {A B : Option Addr} (h : Apt A B) : Apt B A := fun b hb ha => h b ha hb
theorem Apt.nil (B : Option Addr) : Apt none B := fun b hb => by cases hb
theorem Apt.nil' (A : Option Addr) : Apt A none := fun b hb h => by cases h
theorem Apt.older {A B : Option Addr} {n : Nat} (h : ∀ b, blockOf A = some b → b < n) (k : ∀ b, blockOf B = some b → n ≤ b) : Apt A B := fun b hb hc => by
  have := h b hb; have := k b hc; omega
theorem Apt.grown {A B B' : Option Addr} {n : Nat} (h : Apt A B) (hA : ∀ b, blockOf A = some b → b < n) (hb : blockOf B' = blockOf B ∨ blockOf B' = some n) : Apt A B' := fun b ha hc => by
  rcases hb with e | e
  · exact h b ha (e ▸ hc)
  · have := hA b ha
    rw [e] at hc
    injection hc with hc
    omega
/-- A row that another row's growth leaves alone. -/
theorem row_keep {W w' : World} {A B B' : Option Addr} {c : Nat} {l : List SegP} (h : IsSegs W A c l) (h0 : 0 < l.length) (ha : Apt A B) (hg : W.grownBy w' (blockOf B)) (hb : blockOf B' = blockOf B ∨ blockOf B' = some W.heap.size) : IsSegs w' A c l ∧ Apt A B' :=
  ⟨h.kept hg ha, ha.grown (fun b hb => h.block_lt h0 hb) hb⟩
/-- What two segments share, if they overlap. -/
def shE (x y : SegP) : Option SegP := if (meetP x y).1 = 3 then some (meetP x y).2 else none
def shS (x : SegP) (F : List SegP) : List SegP := F.filterMap (shE x)
def shL (E F : List SegP) : List SegP := E.flatMap fun x => shS x F
def shareR (a b : List Pt) : List SegP := if okB a && okB b then shL (edgesV a) (edgesV b) else []
theorem shS_succ {x : SegP} {F : List SegP} {k : Nat} (h : k < F.length) : shS x (F.take (k + 1)) = shS x (F.take k) ++ (if (meetP x F[k]).1 = 3 then [(meetP x F[k]).2] else []) := by
  unfold shS
  rw [List.take_succ_eq_append_getElem h, List.filterMap_append]
  congr 1
  unfold shE
  split
  · rename_i h3; simp [h3]
  · rename_i h3; simp [h3]
theorem shS_len (x : SegP) (F : List SegP) : (shS x F).length ≤ F.length := List.length_filterMap_le _ _
theorem shL_succ {E F : List SegP} {i : Nat} (h : i < E.length) : shL (E.take (i + 1)) F = shL (E.take i) F ++ shS E[i] F := by
  unfold shL
  rw [List.take_succ_eq_append_getElem h, List.flatMap_append]
  simp
theorem shL_len (E F : List SegP) : (shL E F).length ≤ E.length * F.length := by
  induction E with
  | nil => simp [shL]
  | cons x E ih =>
    unfold shL at *
    rw [List.flatMap_cons, List.length_append, List.length_cons, Nat.succ_mul]
    have := shS_len x F
    omega
theorem okB_edge {r : List Pt} (h : okB r = true) : ∀ s ∈ edgesV r, segOk s = true := by
  have hk := okB_iff.1 h
  intro s hs
  have h2 : ¬ r.length < 2 := by have := hk.three; omega
  unfold edgesV at hs
  rw [if_neg h2] at hs
  obtain ⟨i, hi, rfl⟩ := List.mem_map.1 hs
  rw [List.mem_range] at hi
  exact segOk_near.2 ⟨at0_near hk.near hi, rv_near hk.near (by omega) _⟩
theorem okB_len40 {r : List Pt} (h : okB r = true) : 3 ≤ (edgesV r).length ∧ (edgesV r).length ≤ 40 := by
  have hk := okB_iff.1 h
  rw [edgesV_len (by have := hk.three; omega)]
  exact ⟨hk.three, hk.most⟩
set_option maxRecDepth 100000 in
set_option maxHeartbeats 16000000 in
theorem share_any (A B : Option Addr) (c d : Nat) (a b : List (Int × Int)) (w : World) (ha : IsVecs w A c a) (hb : IsVecs w B d b) (hla : a.length < 4611686018427387904) (hlb : b.length < 4611686018427387904) :
    Calls Try.prog 9 #[.slice A a.length c, .slice B b.length d] w fun e w' => ∃ A' c', e = .returned (.slice A' (shareR a b).length c') ∧ OwnSegs w.heap.size w' A' c' (shareR a b) ∧ (shareR a b).length ≤ 1600 ∧ SinceOf w w' := by
  have V1 := fun W (hW : SinceOf w W) => ringValid_any A c a W (ha.of hW) hla
  have V2 := fun W (hW : SinceOf w W) => ringValid_any B d b W (hb.of hW) hlb
  have H := Lib.hid (And.intro ha hb)
  clear ha hb
  unfold shareR
  cases h1 : okB a
  · rw [h1] at V1
    rw [Bool.false_and, if_neg Bool.false_ne_true]
    clear V2 h1
    go_enter Try.func9, Try.ntmps9
    go_wp2_with fail
    refine (V1 _ (by (repeat (first | (with_reducible exact SinceOf.refl _) | (with_reducible assumption) | (with_reducible refine SinceOf.alloc ?_ _) | (with_reducible refine SinceOf.drew ?_) | (with_reducible refine SinceOf.drewN ?_ _) | (with_reducible refine SinceOf.later ?_ _) | (with_reducible refine SinceOf.further ?_ _) | (with_reducible refine SinceOf.setCell ?_ (by first | exact Nat.le_refl _ | (simp; done) | omega | (simp; omega)) _))))).calls.mono ?_
    rintro e _ ⟨rfl, x1, rfl⟩
    go_wp2_with fail
    go_returns
    exact ⟨none, 0, rfl, Owns.nil _ _ _ _ _, by simp, by (repeat (first | (with_reducible exact SinceOf.refl _) | (with_reducible assumption) | (with_reducible refine SinceOf.alloc ?_ _) | (with_reducible refine SinceOf.drew ?_) | (with_reducible refine SinceOf.drewN ?_ _) | (with_reducible refine SinceOf.later ?_ _) | (with_reducible refine SinceOf.further ?_ _) | (with_reducible refine SinceOf.setCell ?_ (by first | exact Nat.le_refl _ | (simp; done) | omega | (simp; omega)) _)))⟩
  cases h2 : okB b
  · rw [h1] at V1
    rw [h2] at V2
    rw [Bool.and_false, if_neg Bool.false_ne_true]
    clear h1 h2
    go_enter Try.func9, Try.ntmps9
    go_wp2_with fail
    refine (V1 _ (by (repeat (first | (with_reducible exact SinceOf.refl _) | (with_reducible assumption) | (with_reducible refine SinceOf.alloc ?_ _) | (with_reducible refine SinceOf.drew ?_) | (with_reducible refine SinceOf.drewN ?_ _) | (with_reducible refine SinceOf.later ?_ _) | (with_reducible refine SinceOf.further ?_ _) | (with_reducible refine SinceOf.setCell ?_ (by first | exact Nat.le_refl _ | (simp; done) | omega | (simp; omega)) _))))).calls.mono ?_
    rintro e _ ⟨rfl, x1, rfl⟩
    go_wp2_with fail
    refine (V2 _ (by (repeat (first | (with_reducible exact SinceOf.refl _) | (with_reducible assumption) | (with_reducible refine SinceOf.alloc ?_ _) | (with_reducible refine SinceOf.drew ?_) | (with_reducible refine SinceOf.drewN ?_ _) | (with_reducible refine SinceOf.later ?_ _) | (with_reducible refine SinceOf.further ?_ _) | (with_reducible refine SinceOf.setCell ?_ (by first | exact Nat.le_refl _ | (simp; done) | omega | (simp; omega)) _))))).calls.mono ?_
    rintro e _ ⟨rfl, x2, rfl⟩
    go_wp2_with fail
    go_returns
    exact ⟨none, 0, rfl, Owns.nil _ _ _ _ _, by simp, by (repeat (first | (with_reducible exact SinceOf.refl _) | (with_reducible assumption) | (with_reducible refine SinceOf.alloc ?_ _) | (with_reducible refine SinceOf.drew ?_) | (with_reducible refine SinceOf.drewN ?_ _) | (with_reducible refine SinceOf.later ?_ _) | (with_reducible refine SinceOf.further ?_ _) | (with_reducible refine SinceOf.setCell ?_ (by first | exact Nat.le_refl _ | (simp; done) | omega | (simp; omega)) _)))⟩
  rw [h1] at V1
  rw [h2] at V2
  rw [Bool.and_true, if_pos rfl]
  obtain ⟨la1, la2⟩ := okB_len40 h1
  obtain ⟨lb1, lb2⟩ := okB_len40 h2
  have a40 : a.length ≤ 100000 := by have := (okB_iff.1 h1).most; omega
  have b40 : b.length ≤ 100000 := by have := (okB_iff.1 h2).most; omega
  have E1 := fun W (hW : SinceOf w W) => ringEdges_any A c a W (H.out.1.of hW) a40
  have E2 := fun W (hW : SinceOf w W) => ringEdges_any B d b W (H.out.2.of hW) b40
  have fin : (shL (edgesV a) (edgesV b)).length ≤ 1600 := Nat.le_trans (shL_len _ _) (Nat.mul_le_mul la2 lb2)
  have HF := Lib.hid (And.intro fin E2)
  generalize edgesV a = E at *
  generalize edgesV b = F at *
  obtain ⟨i0, hi, hz0, hz1, hz2⟩ := info_parts infoSeg
  have HI := Lib.hid (And.intro hi (And.intro hz0 (And.intro hz1 hz2)))
  clear hi hz0 hz1 hz2 h1 h2 E2 fin
  go_enter Try.func9, Try.ntmps9
  go_wp2_with fail
  refine (V1 _ (by (repeat (first | (with_reducible exact SinceOf.refl _) | (with_reducible assumption) | (with_reducible refine SinceOf.alloc ?_ _) | (with_reducible refine SinceOf.drew ?_) | (with_reducible refine SinceOf.drewN ?_ _) | (with_reducible refine SinceOf.later ?_ _) | (with_reducible refine SinceOf.further ?_ _) | (with_reducible refine SinceOf.setCell ?_ (by first | exact Nat.le_refl _ | (simp; done) | omega | (simp; omega)) _))))).calls.mono ?_
  rintro e _ ⟨rfl, x1, rfl⟩
  go_wp2_with fail
  refine (V2 _ (by (repeat (first | (with_reducible exact SinceOf.refl _) | (with_reducible assumption) | (with_reducible refine SinceOf.alloc ?_ _) | (with_reducible refine SinceOf.drew ?_) | (with_reducible refine SinceOf.drewN ?_ _) | (with_reducible refine SinceOf.later ?_ _) | (with_reducible refine SinceOf.further ?_ _) | (with_reducible refine SinceOf.setCell ?_ (by first | exact Nat.le_refl _ | (simp; done) | omega | (simp; omega)) _))))).calls.mono ?_
  rintro e _ ⟨rfl, x2, rfl⟩
  go_wp2_with fail
  refine (E1 _ (by (repeat (first | (with_reducible exact SinceOf.refl _) | (with_reducible assumption) | (with_reducible refine SinceOf.alloc ?_ _) | (with_reducible refine SinceOf.drew ?_) | (with_reducible refine SinceOf.drewN ?_ _) | (with_reducible refine SinceOf.later ?_ _) | (with_reducible refine SinceOf.further ?_ _) | (with_reducible refine SinceOf.setCell ?_ (by first | exact Nat.le_refl _ | (simp; done) | omega | (simp; omega)) _))))).mono ?_
  rintro e _ ⟨A4, c4, rfl, ho4, ⟨x3, rfl⟩⟩
  have H4 := Lib.hid ho4
  clear ho4 V1 V2 E1
  go_wp2_with fail
  go_loopg [5, 23] E.length (fun gas s5 s23 wr => ∃ (i : Nat) (A2 : Option Addr) (c2 : Nat) (L : List SegP), i ≤ E.length ∧ E.length - i ≤ gas ∧ s5 = .slice A2 L.length c2 ∧ s23 = .int .i64 i ∧ L = shL (E.take i) F ∧ OwnSegs w.heap.size wr A2 c2 L ∧ Apt A4 A2 ∧ IsSegs wr A4 c4 E ∧ SinceOf w wr)
  case atStart => exact ⟨0, none, 0, [], by omega, by omega, rfl, rfl, rfl, Owns.nil _ _ _ _ _, Apt.nil' _, H4.out.isRow encE_len, by (repeat (first | (with_reducible exact SinceOf.refl _) | (with_reducible assumption) | (with_reducible refine SinceOf.alloc ?_ _) | (with_reducible refine SinceOf.drew ?_) | (with_reducible refine SinceOf.drewN ?_ _) | (with_reducible refine SinceOf.later ?_ _) | (with_reducible refine SinceOf.further ?_ _) | (with_reducible refine SinceOf.setCell ?_ (by first | exact Nat.le_refl _ | (simp; done) | omega | (simp; omega)) _)))⟩
  case round =>
    clear H4
    obtain ⟨i, A2, c2, L, hi, hgas, rfl, rfl, hL, ho, hap, hrow, ⟨z, rfl⟩⟩ := hrel
    by_cases hlt : i < E.length
    · obtain ⟨g, off, rfl, hr⟩ := hrow.at_ (by omega)
      have hO := hr.there
      have a0 := hr.e0 i hlt
      have a1 := hr.e1 i hlt
      have a2 := hr.e2 i hlt
      have a3 := hr.e3 i hlt
      have hsu := shL_succ (F := F) hlt
      rw [← hL] at hsu
      obtain ⟨x, hx⟩ : ∃ x, x = E[i] := ⟨_, rfl⟩
      rw [← hx] at hsu a0 a1 a2 a3
      have hLl : L.length ≤ i * F.length := by rw [hL]; exact Nat.le_trans (shL_len _ _) (Nat.mul_le_mul_right _ (by rw [List.length_take]; omega))
      have hif : i * F.length ≤ 40 * 40 := Nat.mul_le_mul (by omega) lb2
      have E2 := HF.out.2
      have HS := Lib.hid (And.intro hsu (And.intro ho (And.intro hap hrow)))
      have hLb : L.length ≤ 1600 := by omega
      obtain ⟨⟨xa, xb⟩, xc, xd⟩ := x
      simp only at a0 a1 a2 a3
      clear hL hsu ho hap hrow hr hx hLl hif
      go_wp2_with fail
      refine (E2 _ (by (repeat (first | (with_reducible exact SinceOf.refl _) | (with_reducible assumption) | (with_reducible refine SinceOf.alloc ?_ _) | (with_reducible refine SinceOf.drew ?_) | (with_reducible refine SinceOf.drewN ?_ _) | (with_reducible refine SinceOf.later ?_ _) | (with_reducible refine SinceOf.further ?_ _) | (with_reducible refine SinceOf.setCell ?_ (by first | exact Nat.le_refl _ | (simp; done) | omega | (simp; omega)) _))))).mono ?_
      rintro e _ ⟨A5, c5, rfl, ho5, ⟨z5, rfl⟩⟩
      have hx5 := z5.size
      simp only [World.size_alloc] at hx5
      have r1 : IsSegs z5.wd (some ⟨g, off, none⟩) c4 E := HS.out.2.2.2.of (by (repeat (first | (with_reducible exact SinceOf.refl _) | (with_reducible assumption) | (with_reducible refine SinceOf.alloc ?_ _) | (with_reducible refine SinceOf.drew ?_) | (with_reducible refine SinceOf.drewN ?_ _) | (with_reducible refine SinceOf.later ?_ _) | (with_reducible refine SinceOf.further ?_ _) | (with_reducible refine SinceOf.setCell ?_ (by first | exact Nat.le_refl _ | (simp; done) | omega | (simp; omega)) _))))
      have r2 : IsSegs z5.wd (some ⟨z.wd.heap.size, 0, none⟩) 1 [((xa, xb), (xc, xd))] := (isRow_atE z.wd _ xa xb xc xd rfl).of (by (repeat (first | (with_reducible exact SinceOf.refl _) | (with_reducible assumption) | (with_reducible refine SinceOf.alloc ?_ _) | (with_reducible refine SinceOf.drew ?_) | (with_reducible refine SinceOf.drewN ?_ _) | (with_reducible refine SinceOf.later ?_ _) | (with_reducible refine SinceOf.further ?_ _) | (with_reducible refine SinceOf.setCell ?_ (by first | exact Nat.le_refl _ | (simp; done) | omega | (simp; omega)) _))))
      have q5 : ∀ b, blockOf A5 = some b → z.wd.heap.size + 1 ≤ b := fun b hb => by have := (ho5.below b hb).1; simpa using this
      have p1 : Apt A5 A2 := (Apt.older (fun b hb => (HS.out.2.1.below b hb).2) (fun b hb => by have := q5 b hb; omega)).symm
      have p2 : Apt (some ⟨z.wd.heap.size, 0, none⟩) A2 := (Apt.older (fun b hb => (HS.out.2.1.below b hb).2) (fun b hb => by have : z.wd.heap.size = b := (by simpa [blockOf] using hb); omega)).symm
      have HT := Lib.hid (And.intro (ho5.isRow encE_len) (And.intro r1 (And.intro r2 (And.intro p1 p2))))
      clear ho5 r1 r2 p1 p2 q5 E2 a0 a1 a2 a3
      go_wp2_with fail
      go_loopg [5, 30] F.length (fun gas s5 s30 wr => ∃ (k : Nat) (A6 : Option Addr) (c6 : Nat) (L2 : List SegP), k ≤ F.length ∧ F.length - k ≤ gas ∧ s5 = .slice A6 L2.length c6 ∧ s30 = .int .i64 k ∧ L2 = L ++ shS ((xa, xb), (xc, xd)) (F.take k) ∧ L2.length ≤ L.length + k ∧ OwnSegs w.heap.size wr A6 c6 L2 ∧ Apt (some ⟨g, off, none⟩) A6 ∧ IsSegs wr (some ⟨g, off, none⟩) c4 E ∧ Apt A5 A6 ∧ IsSegs wr A5 c5 F ∧ Apt (some ⟨z.wd.heap.size, 0, none⟩) A6 ∧ IsSegs wr (some ⟨z.wd.heap.size, 0, none⟩) 1 [((xa, xb), (xc, xd))] ∧ SinceOf w wr)
      case atStart => exact ⟨0, A2, c2, L, by omega, by omega, rfl, rfl, (by unfold shS; simp), by omega, HS.out.2.1.of (by (repeat (first | (with_reducible exact SinceOf.refl _) | (with_reducible assumption) | (with_reducible refine SinceOf.alloc ?_ _) | (with_reducible refine SinceOf.drew ?_) | (with_reducible refine SinceOf.drewN ?_ _) | (with_reducible refine SinceOf.later ?_ _) | (with_reducible refine SinceOf.further ?_ _) | (with_reducible refine SinceOf.setCell ?_ (by first | exact Nat.le_refl _ | (simp; done) | omega | (simp; omega)) _)))), HS.out.2.2.1, HT.out.2.1, HT.out.2.2.2.1, HT.out.1, HT.out.2.2.2.2, HT.out.2.2.1, by (repeat (first | (with_reducible exact SinceOf.refl _) | (with_reducible assumption) | (with_reducible refine SinceOf.alloc ?_ _) | (with_reducible refine SinceOf.drew ?_) | (with_reducible refine SinceOf.drewN ?_ _) | (with_reducible refine SinceOf.later ?_ _) | (with_reducible refine SinceOf.further ?_ _) | (with_reducible refine SinceOf.setCell ?_ (by first | exact Nat.le_refl _ | (simp; done) | omega | (simp; omega)) _)))⟩
      case round =>
        clear HT
        obtain ⟨k, A6, c6, L2, hk, hgas2, rfl, rfl, hL2, hLl2, ho, hap1, hr1, hap2, hr2, hap3, hr3, ⟨v, rfl⟩⟩ := hrel
        have hvs := v.size
        by_cases hlt2 : k < F.length
        · obtain ⟨g5, off5, rfl, hr⟩ := hr2.at_ (by omega)
          have hO5 := hr.there
          have y0 := hr.e0 k hlt2
          have y1 := hr.e1 k hlt2
          have y2 := hr.e2 k hlt2
          have y3 := hr.e3 k hlt2
          obtain ⟨gb, offb, eb, hrb⟩ := hr3.at_ (by simp)
          simp only [Option.some.injEq, Addr.mk.injEq, and_true] at eb
          obtain ⟨rfl, rfl⟩ := eb
          have hOb := hrb.there
          have b0 := hrb.e0 0 (by simp)
          have b1 := hrb.e1 0 (by simp)
          have b2 := hrb.e2 0 (by simp)
          have b3 := hrb.e3 0 (by simp)
          simp at b0 b1 b2 b3
          have hsu := shS_succ (x := ((xa, xb), (xc, xd))) hlt2
          have SH := segShare_any ((xa, xb), (xc, xd)) F[k]
          obtain ⟨y, hy⟩ : ∃ y, y = F[k] := ⟨_, rfl⟩
          rw [← hy] at hsu SH y0 y1 y2 y3
          obtain ⟨bb, hbb⟩ : ∃ b, b = decide ((meetP ((xa, xb), (xc, xd)) y).1 = 3) := ⟨_, rfl⟩
          rw [← hbb] at SH
          have hsu2 : L ++ shS ((xa, xb), (xc, xd)) (F.take (k + 1)) = L2 ++ (if bb = true then [(meetP ((xa, xb), (xc, xd)) y).2] else []) := by
            rw [hsu, hbb, hL2]; simp only [decide_eq_true_eq, List.append_assoc]
          obtain ⟨sh, hsh⟩ : ∃ s, s = (meetP ((xa, xb), (xc, xd)) y).2 := ⟨_, rfl⟩
          rw [← hsh] at SH hsu2
          have HW := Lib.hid (And.intro ho (And.intro hap1 (And.intro hr1 (And.intro hap2 (And.intro hr2 (And.intro hap3 (And.intro hr3 hsu2)))))))
          obtain ⟨⟨sa, sb⟩, sc, sd⟩ := sh
          obtain ⟨⟨ya, yb⟩, yc, yd⟩ := y
          simp only at y0 y1 y2 y3
          change ∀ w, Gives _ _ #[sg xa xb xc xd, sg ya yb yc yd] w (.tuple #[sg sa sb sc sd, .bool bb]) at SH
          clear ho hap1 hr1 hap2 hr2 hap3 hr3 hsu2 hsu hy hbb hsh hL2 hr hrb
          go_wp2_with fail
          refine (SH _).calls.mono ?_
          rintro e _ ⟨rfl, v1, rfl⟩
          have hv1 := v1.size
          simp only [World.size_alloc] at hv1
          clear SH y0 y1 y2 y3 b0 b1 b2 b3
          have m1 : IsSegs v1.wd (some ⟨g, off, none⟩) c4 E := HW.out.2.2.1.of (by (repeat (first | (with_reducible exact SinceOf.refl _) | (with_reducible assumption) | (with_reducible refine SinceOf.alloc ?_ _) | (with_reducible refine SinceOf.drew ?_) | (with_reducible refine SinceOf.drewN ?_ _) | (with_reducible refine SinceOf.later ?_ _) | (with_reducible refine SinceOf.further ?_ _) | (with_reducible refine SinceOf.setCell ?_ (by first | exact Nat.le_refl _ | (simp; done) | omega | (simp; omega)) _))))
          have m2 : IsSegs v1.wd (some ⟨g5, off5, none⟩) c5 F := HW.out.2.2.2.2.1.of (by (repeat (first | (with_reducible exact SinceOf.refl _) | (with_reducible assumption) | (with_reducible refine SinceOf.alloc ?_ _) | (with_reducible refine SinceOf.drew ?_) | (with_reducible refine SinceOf.drewN ?_ _) | (with_reducible refine SinceOf.later ?_ _) | (with_reducible refine SinceOf.further ?_ _) | (with_reducible refine SinceOf.setCell ?_ (by first | exact Nat.le_refl _ | (simp; done) | omega | (simp; omega)) _))))
          have m3 : IsSegs v1.wd (some ⟨z.wd.heap.size, 0, none⟩) 1 [((xa, xb), (xc, xd))] := HW.out.2.2.2.2.2.2.1.of (by (repeat (first | (with_reducible exact SinceOf.refl _) | (with_reducible assumption) | (with_reducible refine SinceOf.alloc ?_ _) | (with_reducible refine SinceOf.drew ?_) | (with_reducible refine SinceOf.drewN ?_ _) | (with_reducible refine SinceOf.later ?_ _) | (with_reducible refine SinceOf.further ?_ _) | (with_reducible refine SinceOf.setCell ?_ (by first | exact Nat.le_refl _ | (simp; done) | omega | (simp; omega)) _))))
          have HM := Lib.hid (And.intro m1 (And.intro m2 m3))
          clear m1 m2 m3
          cases bb
          · go_wp2_with fail
            go_roundg (F.length - (k + 1))
            case measure => omega
            case rel => exact ⟨k + 1, A6, c6, L2, hlt2, Nat.le_refl _, rfl, by go_num, (by rw [HW.out.2.2.2.2.2.2.2]; simp), by omega, HW.out.1.of (by (repeat (first | (with_reducible exact SinceOf.refl _) | (with_reducible assumption) | (with_reducible refine SinceOf.alloc ?_ _) | (with_reducible refine SinceOf.drew ?_) | (with_reducible refine SinceOf.drewN ?_ _) | (with_reducible refine SinceOf.later ?_ _) | (with_reducible refine SinceOf.further ?_ _) | (with_reducible refine SinceOf.setCell ?_ (by first | exact Nat.le_refl _ | (simp; done) | omega | (simp; omega)) _)))), HW.out.2.1, HM.out.1.of (by (repeat (first | (with_reducible exact SinceOf.refl _) | (with_reducible assumption) | (with_reducible refine SinceOf.alloc ?_ _) | (with_reducible refine SinceOf.drew ?_) | (with_reducible refine SinceOf.drewN ?_ _) | (with_reducible refine SinceOf.later ?_ _) | (with_reducible refine SinceOf.further ?_ _) | (with_reducible refine SinceOf.setCell ?_ (by first | exact Nat.le_refl _ | (simp; done) | omega | (simp; omega)) _)))), HW.out.2.2.2.1, HM.out.2.1.of (by (repeat (first | (with_reducible exact SinceOf.refl _) | (with_reducible assumption) | (with_reducible refine SinceOf.alloc ?_ _) | (with_reducible refine SinceOf.drew ?_) | (with_reducible refine SinceOf.drewN ?_ _) | (with_reducible refine SinceOf.later ?_ _) | (with_reducible refine SinceOf.further ?_ _) | (with_reducible refine SinceOf.setCell ?_ (by first | exact Nat.le_refl _ | (simp; done) | omega | (simp; omega)) _)))), HW.out.2.2.2.2.2.1, HM.out.2.2.of (by (repeat (first | (with_reducible exact SinceOf.refl _) | (with_reducible assumption) | (with_reducible refine SinceOf.alloc ?_ _) | (with_reducible refine SinceOf.drew ?_) | (with_reducible refine SinceOf.drewN ?_ _) | (with_reducible refine SinceOf.later ?_ _) | (with_reducible refine SinceOf.further ?_ _) | (with_reducible refine SinceOf.setCell ?_ (by first | exact Nat.le_refl _ | (simp; done) | omega | (simp; omega)) _)))), by (repeat (first | (with_reducible exact SinceOf.refl _) | (with_reducible assumption) | (with_reducible refine SinceOf.alloc ?_ _) | (with_reducible refine SinceOf.drew ?_) | (with_reducible refine SinceOf.drewN ?_ _) | (with_reducible refine SinceOf.later ?_ _) | (with_reducible refine SinceOf.further ?_ _) | (with_reducible refine SinceOf.setCell ?_ (by first | exact Nat.le_refl _ | (simp; done) | omega | (simp; omega)) _)))⟩
          · go_wp2_with (at_builtin; refine wpList_append_row rfl (.tmp 41) (.tmp 43) 27 rfl encE_len (by omega) encE_one i0 _ 32 Try.underlying27 HI.out.1 HI.out.2.1 HI.out.2.2.1 HI.out.2.2.2 rfl (l := L2) (A := A6) (c := c6) (base := w.heap.size) rfl (HW.out.1.of (by (repeat (first | (with_reducible exact SinceOf.refl _) | (with_reducible assumption) | (with_reducible refine SinceOf.alloc ?_ _) | (with_reducible refine SinceOf.drew ?_) | (with_reducible refine SinceOf.drewN ?_ _) | (with_reducible refine SinceOf.later ?_ _) | (with_reducible refine SinceOf.further ?_ _) | (with_reducible refine SinceOf.setCell ?_ (by first | exact Nat.le_refl _ | (simp; done) | omega | (simp; omega)) _))))) (m := [((sa, sb), (sc, sd))]) rfl (isRow_atE _ _ _ _ _ _ (by first | rfl | simp)) (by unfold maxLen; simp; omega) (by simp; omega) (by simp; omega) ?_; intro A7 c7 w7 ho7 hgr7 hb7)
            have k1 := row_keep (HM.out.1.of (by (repeat (first | (with_reducible exact SinceOf.refl _) | (with_reducible assumption) | (with_reducible refine SinceOf.alloc ?_ _) | (with_reducible refine SinceOf.drew ?_) | (with_reducible refine SinceOf.drewN ?_ _) | (with_reducible refine SinceOf.later ?_ _) | (with_reducible refine SinceOf.further ?_ _) | (with_reducible refine SinceOf.setCell ?_ (by first | exact Nat.le_refl _ | (simp; done) | omega | (simp; omega)) _))))) (by omega) HW.out.2.1 hgr7 hb7
            have k2 := row_keep (HM.out.2.1.of (by (repeat (first | (with_reducible exact SinceOf.refl _) | (with_reducible assumption) | (with_reducible refine SinceOf.alloc ?_ _) | (with_reducible refine SinceOf.drew ?_) | (with_reducible refine SinceOf.drewN ?_ _) | (with_reducible refine SinceOf.later ?_ _) | (with_reducible refine SinceOf.further ?_ _) | (with_reducible refine SinceOf.setCell ?_ (by first | exact Nat.le_refl _ | (simp; done) | omega | (simp; omega)) _))))) (by omega) HW.out.2.2.2.1 hgr7 hb7
            have k3 := row_keep (HM.out.2.2.of (by (repeat (first | (with_reducible exact SinceOf.refl _) | (with_reducible assumption) | (with_reducible refine SinceOf.alloc ?_ _) | (with_reducible refine SinceOf.drew ?_) | (with_reducible refine SinceOf.drewN ?_ _) | (with_reducible refine SinceOf.later ?_ _) | (with_reducible refine SinceOf.further ?_ _) | (with_reducible refine SinceOf.setCell ?_ (by first | exact Nat.le_refl _ | (simp; done) | omega | (simp; omega)) _))))) (by simp) HW.out.2.2.2.2.2.1 hgr7 hb7
            have k4 : SinceOf w w7 := SinceOf.grown (by (repeat (first | (with_reducible exact SinceOf.refl _) | (with_reducible assumption) | (with_reducible refine SinceOf.alloc ?_ _) | (with_reducible refine SinceOf.drew ?_) | (with_reducible refine SinceOf.drewN ?_ _) | (with_reducible refine SinceOf.later ?_ _) | (with_reducible refine SinceOf.further ?_ _) | (with_reducible refine SinceOf.setCell ?_ (by first | exact Nat.le_refl _ | (simp; done) | omega | (simp; omega)) _)))) hgr7 (fun q hq => (HW.out.1.below q hq).1)
            have HK := Lib.hid (And.intro k1 (And.intro k2 (And.intro k3 (And.intro k4 ho7))))
            clear k1 k2 k3 k4 ho7 hgr7 hb7
            go_wp2_with fail
            go_roundg (F.length - (k + 1))
            case measure => omega
            case rel => exact ⟨k + 1, A7, c7, L2 ++ [((sa, sb), (sc, sd))], hlt2, Nat.le_refl _, (by first | rfl | simp), by go_num, (by rw [HW.out.2.2.2.2.2.2.2]; simp), by simp; omega, HK.out.2.2.2.2, HK.out.1.2, HK.out.1.1, HK.out.2.1.2, HK.out.2.1.1, HK.out.2.2.1.2, HK.out.2.2.1.1, HK.out.2.2.2.1⟩
        · obtain rfl : k = F.length := by omega
          rw [List.take_length] at hL2
          have HW := Lib.hid (And.intro ho (And.intro hap1 (And.intro hr1 hL2)))
          clear ho hap1 hr1 hap2 hr2 hap3 hr3 hL2
          go_wp2_with fail
          go_roundg (E.length - (i + 1))
          case measure => omega
          case rel => exact ⟨i + 1, A6, c6, L2, hlt, Nat.le_refl _, rfl, by go_num, by rw [HW.out.2.2.2, ← HS.out.1], HW.out.1, HW.out.2.1, HW.out.2.2.1, by (repeat (first | (with_reducible exact SinceOf.refl _) | (with_reducible assumption) | (with_reducible refine SinceOf.alloc ?_ _) | (with_reducible refine SinceOf.drew ?_) | (with_reducible refine SinceOf.drewN ?_ _) | (with_reducible refine SinceOf.later ?_ _) | (with_reducible refine SinceOf.further ?_ _) | (with_reducible refine SinceOf.setCell ?_ (by first | exact Nat.le_refl _ | (simp; done) | omega | (simp; omega)) _)))⟩
    · obtain rfl : i = E.length := by omega
      rw [List.take_length] at hL
      subst hL
      have HS := Lib.hid ho
      clear ho hap hrow
      go_wp2_with fail
      go_returns
      exact ⟨A2, c2, rfl, HS.out, HF.out.1, by (repeat (first | (with_reducible exact SinceOf.refl _) | (with_reducible assumption) | (with_reducible refine SinceOf.alloc ?_ _) | (with_reducible refine SinceOf.drew ?_) | (with_reducible refine SinceOf.drewN ?_ _) | (with_reducible refine SinceOf.later ?_ _) | (with_reducible refine SinceOf.further ?_ _) | (with_reducible refine SinceOf.setCell ?_ (by first | exact Nat.le_refl _ | (simp; done) | omega | (simp; omega)) _)))⟩
end Go.Proofs.Ytkpnffokjpgalaa
/- Layer 46: Share of the reference. -/
namespace Go.Proofs.Ytkpnffokjpgalaa
set_option linter.unusedVariables false
set_option linter.unusedSimpArgs false
open Go.RowKit Go.Sort
attribute [local go_sem ↓] Go.wp_at_zero Go.wp_at_succ

end Go.Proofs.Ytkpnffokjpgalaa
