/- Layer 46: Valid of package ring. -/
import Derived.Test.YtkpnffokjpgalaaGreatKJnt13
import Derived.Test.YtkpnffokjpgalaaGreatKJntQ1
namespace Go.Proofs.YtkpnffokjpgalaaGreat
set_option linter.unusedVariables false
set_option linter.unusedSimpArgs false
open Go.RowKit Go.Sort
attribute [local go_sem ↓] Go.wp_at_zero Go.wp_at_succ

theorem near2_4 {p : Pt} (h : near2 p) : near4 p := by unfold near2 at h; unfold near4; omega
/-- How two edges of a ring meet, as the program asks it. -/
theorem edges_meet {r : List Pt} (hn : ∀ p ∈ r, near2 p) {i k : Nat} (hi : i < r.length) (hk : k < r.length) : (meetP (at0 r i, rv r (i + 1)) (at0 r k, rv r (k + 1))).1 = meetE r i k := by
  have n1 := near2_4 (hn _ (at0_mem hi))
  have n2 := near2_4 (hn _ (rv_mem (r := r) (i := i + 1) (by omega)))
  have n3 := near2_4 (hn _ (at0_mem hk))
  have n4 := near2_4 (hn _ (rv_mem (r := r) (i := k + 1) (by omega)))
  have a1 : segOk (at0 r i, rv r (i + 1)) = true := segOk_near.2 ⟨n1, n2⟩
  have a2 : segOk (at0 r k, rv r (k + 1)) = true := segOk_near.2 ⟨n3, n4⟩
  unfold meetP meetE
  rw [a1, a2]
  rfl
set_option maxRecDepth 100000 in
set_option maxHeartbeats 16000000 in
theorem ringValid_any (A : Option Addr) (c : Nat) (r : List (Int × Int)) (w : World) (h : IsVecs w A c r) (hlen : r.length < 4611686018427387904) :
    Yields Tryz.prog 33 #[.slice A r.length c] w (.bool (okB r)) := by
  apply Yields.ret
  have N := fun W (hW : SinceOf w W) => ringNear_any A c r W (h.of hW) hlen
  have H := Lib.hid h
  clear h
  generalize hres : okB r = res
  have HR := Lib.hid hres
  clear hres
  by_cases h3 : r.length < 3
  · have g1 : decide ((r.length : Int) < 3) = true := decide_eq_true (by omega)
    obtain rfl : res = false := by rw [← HR.out]; exact okB_len (by omega)
    clear h3 N
    go_enter Tryz.func33, Tryz.ntmps33
    go_wp2_with fail
    go_returns
    exact ⟨rfl, by (repeat (first | (with_reducible exact SinceOf.refl _) | (with_reducible assumption) | (with_reducible refine SinceOf.alloc ?_ _) | (with_reducible refine SinceOf.drew ?_) | (with_reducible refine SinceOf.drewN ?_ _) | (with_reducible refine SinceOf.later ?_ _) | (with_reducible refine SinceOf.further ?_ _) | (with_reducible refine SinceOf.setCell ?_ (by first | exact Nat.le_refl _ | (simp; done) | omega | (simp; omega)) _)))⟩
  have g1 : decide ((r.length : Int) < 3) = false := decide_eq_false (by omega)
  by_cases h40 : 40 < r.length
  · have g2 : decide (40 < (r.length : Int)) = true := decide_eq_true (by omega)
    obtain rfl : res = false := by rw [← HR.out]; exact okB_len (by omega)
    clear h3 h40 N
    go_enter Tryz.func33, Tryz.ntmps33
    go_wp2_with fail
    go_returns
    exact ⟨rfl, by (repeat (first | (with_reducible exact SinceOf.refl _) | (with_reducible assumption) | (with_reducible refine SinceOf.alloc ?_ _) | (with_reducible refine SinceOf.drew ?_) | (with_reducible refine SinceOf.drewN ?_ _) | (with_reducible refine SinceOf.later ?_ _) | (with_reducible refine SinceOf.further ?_ _) | (with_reducible refine SinceOf.setCell ?_ (by first | exact Nat.le_refl _ | (simp; done) | omega | (simp; omega)) _)))⟩
  have g2 : decide (40 < (r.length : Int)) = false := decide_eq_false (by omega)
  cases hn : nearR r
  · rw [hn] at N
    obtain rfl : res = false := by rw [← HR.out]; exact okB_near hn
    clear hn
    go_enter Tryz.func33, Tryz.ntmps33
    go_wp2_with fail
    refine (N _ (by (repeat (first | (with_reducible exact SinceOf.refl _) | (with_reducible assumption) | (with_reducible refine SinceOf.alloc ?_ _) | (with_reducible refine SinceOf.drew ?_) | (with_reducible refine SinceOf.drewN ?_ _) | (with_reducible refine SinceOf.later ?_ _) | (with_reducible refine SinceOf.further ?_ _) | (with_reducible refine SinceOf.setCell ?_ (by first | exact Nat.le_refl _ | (simp; done) | omega | (simp; omega)) _))))).calls.mono ?_
    rintro e _ ⟨rfl, x1, rfl⟩
    go_wp2_with fail
    go_returns
    exact ⟨rfl, by (repeat (first | (with_reducible exact SinceOf.refl _) | (with_reducible assumption) | (with_reducible refine SinceOf.alloc ?_ _) | (with_reducible refine SinceOf.drew ?_) | (with_reducible refine SinceOf.drewN ?_ _) | (with_reducible refine SinceOf.later ?_ _) | (with_reducible refine SinceOf.further ?_ _) | (with_reducible refine SinceOf.setCell ?_ (by first | exact Nat.le_refl _ | (simp; done) | omega | (simp; omega)) _)))⟩
  rw [hn] at N
  have AR := fun W (hW : SinceOf w W) => ringArea_any A c r W (H.out.of hW) (by omega) (nearR_all hn)
  by_cases ha : 0 < area2V r
  case neg =>
    have g3 : decide (area2V r ≤ 0) = true := decide_eq_true (by omega)
    obtain rfl : res = false := by rw [← HR.out]; exact okB_area ha
    generalize area2V r = ar at *
    clear hn ha
    go_enter Tryz.func33, Tryz.ntmps33
    go_wp2_with fail
    refine (N _ (by (repeat (first | (with_reducible exact SinceOf.refl _) | (with_reducible assumption) | (with_reducible refine SinceOf.alloc ?_ _) | (with_reducible refine SinceOf.drew ?_) | (with_reducible refine SinceOf.drewN ?_ _) | (with_reducible refine SinceOf.later ?_ _) | (with_reducible refine SinceOf.further ?_ _) | (with_reducible refine SinceOf.setCell ?_ (by first | exact Nat.le_refl _ | (simp; done) | omega | (simp; omega)) _))))).calls.mono ?_
    rintro e _ ⟨rfl, x1, rfl⟩
    go_wp2_with fail
    refine (AR _ (by (repeat (first | (with_reducible exact SinceOf.refl _) | (with_reducible assumption) | (with_reducible refine SinceOf.alloc ?_ _) | (with_reducible refine SinceOf.drew ?_) | (with_reducible refine SinceOf.drewN ?_ _) | (with_reducible refine SinceOf.later ?_ _) | (with_reducible refine SinceOf.further ?_ _) | (with_reducible refine SinceOf.setCell ?_ (by first | exact Nat.le_refl _ | (simp; done) | omega | (simp; omega)) _))))).calls.mono ?_
    rintro e _ ⟨rfl, x2, rfl⟩
    go_wp2_with fail
    go_returns
    exact ⟨rfl, by (repeat (first | (with_reducible exact SinceOf.refl _) | (with_reducible assumption) | (with_reducible refine SinceOf.alloc ?_ _) | (with_reducible refine SinceOf.drew ?_) | (with_reducible refine SinceOf.drewN ?_ _) | (with_reducible refine SinceOf.later ?_ _) | (with_reducible refine SinceOf.further ?_ _) | (with_reducible refine SinceOf.setCell ?_ (by first | exact Nat.le_refl _ | (simp; done) | omega | (simp; omega)) _)))⟩
  have g3 : decide (area2V r ≤ 0) = false := decide_eq_false (by omega)
  have E := fun W (hW : SinceOf w W) => ringEdges_any A c r W (H.out.of hW) (by omega)
  have NX := fun (j : Nat) (hj : j < r.length) W (hW : SinceOf w W) => ringNext_any A c r j W (H.out.of hW) (by omega) (by omega) (by omega)
  have LS := fun (j : Nat) (hj : j < r.length) W (hW : SinceOf w W) => ringLast_any A c r j W (H.out.of hW) (by omega) (by omega) (by omega)
  have HN := Lib.hid (And.intro ha (And.intro hn (And.intro NX (And.intro LS E))))
  generalize area2V r = ar at g3 AR
  clear hn ha NX LS E
  go_enter Tryz.func33, Tryz.ntmps33
  go_wp2_with fail
  refine (N _ (by (repeat (first | (with_reducible exact SinceOf.refl _) | (with_reducible assumption) | (with_reducible refine SinceOf.alloc ?_ _) | (with_reducible refine SinceOf.drew ?_) | (with_reducible refine SinceOf.drewN ?_ _) | (with_reducible refine SinceOf.later ?_ _) | (with_reducible refine SinceOf.further ?_ _) | (with_reducible refine SinceOf.setCell ?_ (by first | exact Nat.le_refl _ | (simp; done) | omega | (simp; omega)) _))))).calls.mono ?_
  rintro e _ ⟨rfl, x1, rfl⟩
  go_wp2_with fail
  refine (AR _ (by (repeat (first | (with_reducible exact SinceOf.refl _) | (with_reducible assumption) | (with_reducible refine SinceOf.alloc ?_ _) | (with_reducible refine SinceOf.drew ?_) | (with_reducible refine SinceOf.drewN ?_ _) | (with_reducible refine SinceOf.later ?_ _) | (with_reducible refine SinceOf.further ?_ _) | (with_reducible refine SinceOf.setCell ?_ (by first | exact Nat.le_refl _ | (simp; done) | omega | (simp; omega)) _))))).calls.mono ?_
  rintro e _ ⟨rfl, x2, rfl⟩
  clear N AR
  go_wp2_with fail
  clear g1 g2 g3
  go_loopg [29] r.length (fun gas s29 wr => ∃ i : Nat, i ≤ r.length ∧ r.length - i ≤ gas ∧ s29 = .int .i64 i ∧ SinceOf w wr ∧ ∀ j, j < i → det (rv r (j + r.length - 1)) (at0 r j) (rv r (j + 1)) ≠ 0)
  case atStart => exact ⟨0, by omega, by omega, rfl, by (repeat (first | (with_reducible exact SinceOf.refl _) | (with_reducible assumption) | (with_reducible refine SinceOf.alloc ?_ _) | (with_reducible refine SinceOf.drew ?_) | (with_reducible refine SinceOf.drewN ?_ _) | (with_reducible refine SinceOf.later ?_ _) | (with_reducible refine SinceOf.further ?_ _) | (with_reducible refine SinceOf.setCell ?_ (by first | exact Nat.le_refl _ | (simp; done) | omega | (simp; omega)) _))), fun j hj => absurd hj (by omega)⟩
  case round =>
    obtain ⟨i, hi, hgas, rfl, ⟨z, rfl⟩, hall⟩ := hrel
    by_cases hlt : i < r.length
    · have hr0 := H.out.of (w' := z.wd) (by (repeat (first | (with_reducible exact SinceOf.refl _) | (with_reducible assumption) | (with_reducible refine SinceOf.alloc ?_ _) | (with_reducible refine SinceOf.drew ?_) | (with_reducible refine SinceOf.drewN ?_ _) | (with_reducible refine SinceOf.later ?_ _) | (with_reducible refine SinceOf.further ?_ _) | (with_reducible refine SinceOf.setCell ?_ (by first | exact Nat.le_refl _ | (simp; done) | omega | (simp; omega)) _))))
      obtain ⟨g, off, rfl, hr⟩ := hr0.at_ (by omega)
      have hO := hr.there
      have a0 := hr.v0 i hlt
      have a1 := hr.v1 i hlt
      have N1 := fun W (hW : SinceOf z.wd W) => HN.out.2.2.1 i hlt W (SinceOf.trans ⟨z, rfl⟩ hW)
      have L1 := fun W (hW : SinceOf z.wd W) => HN.out.2.2.2.1 i hlt W (SinceOf.trans ⟨z, rfl⟩ hW)
      have T := turn_any (rv r (i + r.length - 1)).1 (rv r (i + r.length - 1)).2 (at0 r i).1 (at0 r i).2 (rv r (i + 1)).1 (rv r (i + 1)).2
      have ns := nearR_all HN.out.2.1
      rw [turn_det (near2_4 (ns _ (rv_mem (by omega)))) (near2_4 (ns _ (at0_mem hlt))) (near2_4 (ns _ (rv_mem (by omega))))] at T
      rw [show at0 r i = r[i] from at0_eq hlt] at T
      obtain ⟨bv, hbv⟩ : ∃ b, b = decide (det (rv r (i + r.length - 1)) (at0 r i) (rv r (i + 1)) = 0) := ⟨_, rfl⟩
      have hb2 : (cmpi (det (rv r (i + r.length - 1)) r[i] (rv r (i + 1))) 0 == 0) = bv := by
        rw [hbv, show at0 r i = r[i] from at0_eq hlt]
        exact Bool.eq_iff_iff.2 (by simp only [beq_iff_eq, decide_eq_true_eq, cmpi_zero])
      have HS := Lib.hid (And.intro hall hbv)
      generalize cmpi (det (rv r (i + r.length - 1)) r[i] (rv r (i + 1))) 0 = tv at *
      generalize (rv r (i + 1)).1 = bx at *
      generalize (rv r (i + 1)).2 = by_ at *
      generalize (rv r (i + r.length - 1)).1 = cx at *
      generalize (rv r (i + r.length - 1)).2 = cy at *
      generalize r[i].1 = ax at *
      generalize r[i].2 = ay at *
      clear hr hr0 hall hbv ns
      go_wp2_with fail
      refine region_later (by kernel_rfl) (by kernel_rfl) ?_
      repeat (go_big_quiet_step ((first | (with_reducible refine Gives.later (N1 _ (by (repeat (first | (with_reducible exact SinceOf.refl _) | (with_reducible assumption) | (with_reducible refine SinceOf.alloc ?_ _) | (with_reducible refine SinceOf.drew ?_) | (with_reducible refine SinceOf.drewN ?_ _) | (with_reducible refine SinceOf.later ?_ _) | (with_reducible refine SinceOf.further ?_ _) | (with_reducible refine SinceOf.setCell ?_ (by first | exact Nat.le_refl _ | (simp; done) | omega | (simp; omega)) _)))))) | (with_reducible refine Gives.later (L1 _ (by (repeat (first | (with_reducible exact SinceOf.refl _) | (with_reducible assumption) | (with_reducible refine SinceOf.alloc ?_ _) | (with_reducible refine SinceOf.drew ?_) | (with_reducible refine SinceOf.drewN ?_ _) | (with_reducible refine SinceOf.later ?_ _) | (with_reducible refine SinceOf.further ?_ _) | (with_reducible refine SinceOf.setCell ?_ (by first | exact Nat.le_refl _ | (simp; done) | omega | (simp; omega)) _)))))) | (with_reducible refine Gives.later (T _)))))
      refine wpQuiet_nil ?_
      rintro _ ⟨z4, rfl⟩
      clear N1 L1 T
      cases bv
      · go_wp2_with fail
        go_roundg (r.length - (i + 1))
        case measure => omega
        case rel => exact ⟨i + 1, hlt, Nat.le_refl _, by go_num, by (repeat (first | (with_reducible exact SinceOf.refl _) | (with_reducible assumption) | (with_reducible refine SinceOf.alloc ?_ _) | (with_reducible refine SinceOf.drew ?_) | (with_reducible refine SinceOf.drewN ?_ _) | (with_reducible refine SinceOf.later ?_ _) | (with_reducible refine SinceOf.further ?_ _) | (with_reducible refine SinceOf.setCell ?_ (by first | exact Nat.le_refl _ | (simp; done) | omega | (simp; omega)) _))), fun j hj => by
          rcases Nat.lt_or_ge j i with q | q
          · exact HS.out.1 j q
          · obtain rfl : j = i := by omega
            exact of_decide_eq_false HS.out.2.symm⟩
      · obtain rfl : res = false := by rw [← HR.out]; exact okB_turn (by omega) hlt (of_decide_eq_true HS.out.2.symm)
        go_wp2_with fail
        go_returns
        exact ⟨rfl, by (repeat (first | (with_reducible exact SinceOf.refl _) | (with_reducible assumption) | (with_reducible refine SinceOf.alloc ?_ _) | (with_reducible refine SinceOf.drew ?_) | (with_reducible refine SinceOf.drewN ?_ _) | (with_reducible refine SinceOf.later ?_ _) | (with_reducible refine SinceOf.further ?_ _) | (with_reducible refine SinceOf.setCell ?_ (by first | exact Nat.le_refl _ | (simp; done) | omega | (simp; omega)) _)))⟩
    · obtain rfl : i = r.length := by omega
      have HT := Lib.hid ((turns_around (show 3 ≤ r.length by omega)).1 hall)
      have E := HN.out.2.2.2.2 z.wd (by (repeat (first | (with_reducible exact SinceOf.refl _) | (with_reducible assumption) | (with_reducible refine SinceOf.alloc ?_ _) | (with_reducible refine SinceOf.drew ?_) | (with_reducible refine SinceOf.drewN ?_ _) | (with_reducible refine SinceOf.later ?_ _) | (with_reducible refine SinceOf.further ?_ _) | (with_reducible refine SinceOf.setCell ?_ (by first | exact Nat.le_refl _ | (simp; done) | omega | (simp; omega)) _))))
      have HN2 := Lib.hid (And.intro HN.out.1 HN.out.2.1)
      clear hall HN
      go_wp2_with fail
      refine E.mono ?_
      rintro e _ ⟨A4, c4, rfl, ho4, ⟨x4, rfl⟩⟩
      have hel : (edgesV r).length = r.length := edgesV_len (by omega)
      have H4 := Lib.hid (And.intro ho4 hel)
      clear ho4 hel E
      go_wp2_with fail
      go_loopg [47] r.length (fun gas s47 wr => ∃ i : Nat, i ≤ r.length ∧ r.length - i ≤ gas ∧ s47 = .int .i64 i ∧ SinceOf x4.wd wr ∧ ∀ i' k, i' < i → k < r.length → farE r.length i' k → meetE r i' k = 0)
      case atStart => exact ⟨0, by omega, by omega, rfl, by (repeat (first | (with_reducible exact SinceOf.refl _) | (with_reducible assumption) | (with_reducible refine SinceOf.alloc ?_ _) | (with_reducible refine SinceOf.drew ?_) | (with_reducible refine SinceOf.drewN ?_ _) | (with_reducible refine SinceOf.later ?_ _) | (with_reducible refine SinceOf.further ?_ _) | (with_reducible refine SinceOf.setCell ?_ (by first | exact Nat.le_refl _ | (simp; done) | omega | (simp; omega)) _))), fun i' k h1 h2 h3 => absurd h1 (by omega)⟩
      case round =>
        obtain ⟨i, hi, hgas2, rfl, ⟨y, rfl⟩, hall⟩ := hrel
        have HA := Lib.hid hall
        clear hall
        by_cases hlt2 : i < r.length
        · go_wp2_with fail
          go_loopg [8] r.length (fun gas s8 wr => ∃ k : Nat, i < k ∧ k ≤ r.length ∧ r.length - k ≤ gas ∧ s8 = .int .i64 k ∧ SinceOf y.wd wr ∧ ∀ k', k' < k → farE r.length i k' → meetE r i k' = 0)
          case atStart => exact ⟨i + 1, by omega, by omega, by omega, by go_num, by (repeat (first | (with_reducible exact SinceOf.refl _) | (with_reducible assumption) | (with_reducible refine SinceOf.alloc ?_ _) | (with_reducible refine SinceOf.drew ?_) | (with_reducible refine SinceOf.drewN ?_ _) | (with_reducible refine SinceOf.later ?_ _) | (with_reducible refine SinceOf.further ?_ _) | (with_reducible refine SinceOf.setCell ?_ (by first | exact Nat.le_refl _ | (simp; done) | omega | (simp; omega)) _))), fun k' h1 h2 => absurd h2.1 (by omega)⟩
          case round =>
            obtain ⟨k, hik, hk, hgas3, rfl, ⟨v, rfl⟩, hall⟩ := hrel
            by_cases hlt3 : k < r.length
            · obtain ⟨fb, hfb⟩ : ∃ b, b = decide (farE r.length i k) := ⟨_, rfl⟩
              have M := segMeet_any (at0 r i, rv r (i + 1)) (at0 r k, rv r (k + 1))
              rw [edges_meet (nearR_all HN2.out.2) hlt2 hlt3] at M
              change ∀ w, Gives _ _ #[sg (at0 r i).1 (at0 r i).2 (rv r (i + 1)).1 (rv r (i + 1)).2, sg (at0 r k).1 (at0 r k).2 (rv r (k + 1)).1 (rv r (k + 1)).2] w _ at M
              obtain ⟨mb, hmb⟩ : ∃ b, b = decide (meetE r i k = 0) := ⟨_, rfl⟩
              have hm2 : (meetE r i k != 0) = !mb := by
                rw [hmb]; exact Bool.eq_iff_iff.2 (by simp)
              have row := (H4.out.1.isRow encE_len).of (w' := v.wd) (SinceOf.trans ⟨y, rfl⟩ ⟨v, rfl⟩)
              obtain ⟨g, off, rfl, hr⟩ := row.at_ (by rw [H4.out.2]; omega)
              have hO := hr.there
              have h2e : ¬ r.length < 2 := by omega
              have hie : i < (edgesV r).length := by rw [H4.out.2]; exact hlt2
              have hke : k < (edgesV r).length := by rw [H4.out.2]; exact hlt3
              have b0 := hr.e0 i hie
              have b1 := hr.e1 i hie
              have b2 := hr.e2 i hie
              have b3 := hr.e3 i hie
              have d0 := hr.e0 k hke
              have d1 := hr.e1 k hke
              have d2 := hr.e2 k hke
              have d3 := hr.e3 k hke
              rw [edgesV_at h2e hlt2] at b0 b1 b2 b3
              rw [edgesV_at h2e hlt3] at d0 d1 d2 d3
              have hel := H4.out.2
              simp only at b0 b1 b2 b3 d0 d1 d2 d3
              have HS := Lib.hid (And.intro hall (And.intro hfb hmb))
              clear hall hfb hmb row hr hie hke
              generalize meetE r i k = m at M hm2
              generalize (at0 r i).1 = p0 at *
              generalize (at0 r i).2 = p1 at *
              generalize (rv r (i + 1)).1 = p2 at *
              generalize (rv r (i + 1)).2 = p3 at *
              generalize (at0 r k).1 = q0 at *
              generalize (at0 r k).2 = q1 at *
              generalize (rv r (k + 1)).1 = q2 at *
              generalize (rv r (k + 1)).2 = q3 at *
              generalize edgesV r = ED at *
              obtain ⟨n, hn⟩ : ∃ n, n = r.length := ⟨_, rfl⟩
              have hw1 : IntKind.i64.wrap ((i : Int) + 1) = (i : Int) + 1 := IntWalk.i64_in _ (by omega)
              have hw2 : IntKind.i64.wrap ((r.length : Int) - 1) = (r.length : Int) - 1 := IntWalk.i64_in _ (by omega)
              have ie1 : decide ((0 : Int) ≤ (i : Int)) = true := decide_eq_true (by omega)
              go_upto_region 17 with fail
              go_cut [82] from 57 to 82 (fun s82 wx => s82 = .bool (fb && !mb) ∧ SinceOf v.wd wx)
              case first =>
                by_cases c1 : k = i + 1
                · have f1 : ((k : Int) != (i : Int) + 1) = false := by simp; omega
                  have ff : fb = false := by rw [HS.out.2.1]; exact decide_eq_false (fun e => e.2.1 c1)
                  have HF := Lib.hid ff
                  clear ff c1 M
                  refine region_later (by kernel_rfl) (by kernel_rfl) ?_
                  repeat (go_big_quiet_step (fail))
                  refine wpQuiet_nil ?_
                  rintro _ ⟨v4, rfl⟩
                  go_wp2_with fail
                  go_meet
                  exact ⟨by rw [HF.out]; rfl, by (repeat (first | (with_reducible exact SinceOf.refl _) | (with_reducible assumption) | (with_reducible refine SinceOf.alloc ?_ _) | (with_reducible refine SinceOf.drew ?_) | (with_reducible refine SinceOf.drewN ?_ _) | (with_reducible refine SinceOf.later ?_ _) | (with_reducible refine SinceOf.further ?_ _) | (with_reducible refine SinceOf.setCell ?_ (by first | exact Nat.le_refl _ | (simp; done) | omega | (simp; omega)) _)))⟩
                have f1 : ((k : Int) != (i : Int) + 1) = true := by simp; omega
                by_cases c2 : i = 0
                · have f2 : ((i : Int) != 0) = false := by simp; omega
                  by_cases c3 : k = r.length - 1
                  · have f3 : ((k : Int) != (r.length : Int) - 1) = false := by simp; omega
                    have ff : fb = false := by rw [HS.out.2.1]; exact decide_eq_false (fun e => by have := e.2.2; omega)
                    have HF := Lib.hid ff
                    clear ff c1 c2 c3 M
                    refine region_later (by kernel_rfl) (by kernel_rfl) ?_
                    repeat (go_big_quiet_step (fail))
                    refine wpQuiet_nil ?_
                    rintro _ ⟨v4, rfl⟩
                    go_wp2_with fail
                    go_meet
                    exact ⟨by rw [HF.out]; rfl, by (repeat (first | (with_reducible exact SinceOf.refl _) | (with_reducible assumption) | (with_reducible refine SinceOf.alloc ?_ _) | (with_reducible refine SinceOf.drew ?_) | (with_reducible refine SinceOf.drewN ?_ _) | (with_reducible refine SinceOf.later ?_ _) | (with_reducible refine SinceOf.further ?_ _) | (with_reducible refine SinceOf.setCell ?_ (by first | exact Nat.le_refl _ | (simp; done) | omega | (simp; omega)) _)))⟩
                  · have f3 : ((k : Int) != (r.length : Int) - 1) = true := by simp; omega
                    have ff : fb = true := by rw [HS.out.2.1]; exact decide_eq_true ⟨hik, c1, .inr c3⟩
                    have HF := Lib.hid ff
                    clear ff c1 c2 c3
                    refine region_later (by kernel_rfl) (by kernel_rfl) ?_
                    repeat (go_big_quiet_step (((with_reducible refine Gives.later (M _)))))
                    refine wpQuiet_nil ?_
                    rintro _ ⟨v4, rfl⟩
                    go_wp2_with fail
                    go_meet
                    exact ⟨by rw [HF.out]; first | rfl | simp, by (repeat (first | (with_reducible exact SinceOf.refl _) | (with_reducible assumption) | (with_reducible refine SinceOf.alloc ?_ _) | (with_reducible refine SinceOf.drew ?_) | (with_reducible refine SinceOf.drewN ?_ _) | (with_reducible refine SinceOf.later ?_ _) | (with_reducible refine SinceOf.further ?_ _) | (with_reducible refine SinceOf.setCell ?_ (by first | exact Nat.le_refl _ | (simp; done) | omega | (simp; omega)) _)))⟩
                · have f2 : ((i : Int) != 0) = true := by simp; omega
                  have ff : fb = true := by rw [HS.out.2.1]; exact decide_eq_true ⟨hik, c1, .inl c2⟩
                  have HF := Lib.hid ff
                  clear ff c1 c2
                  refine region_later (by kernel_rfl) (by kernel_rfl) ?_
                  repeat (go_big_quiet_step (((with_reducible refine Gives.later (M _)))))
                  refine wpQuiet_nil ?_
                  rintro _ ⟨v4, rfl⟩
                  go_wp2_with fail
                  go_meet
                  exact ⟨by rw [HF.out]; first | rfl | simp, by (repeat (first | (with_reducible exact SinceOf.refl _) | (with_reducible assumption) | (with_reducible refine SinceOf.alloc ?_ _) | (with_reducible refine SinceOf.drew ?_) | (with_reducible refine SinceOf.drewN ?_ _) | (with_reducible refine SinceOf.later ?_ _) | (with_reducible refine SinceOf.further ?_ _) | (with_reducible refine SinceOf.setCell ?_ (by first | exact Nat.le_refl _ | (simp; done) | omega | (simp; omega)) _)))⟩
              case rest =>
                obtain ⟨rfl, ⟨v5, rfl⟩⟩ := hcut
                clear M b0 b1 b2 b3 d0 d1 d2 d3 hw1 hw2 ie1 hm2
                obtain ⟨bb, hbb⟩ : ∃ b, b = (fb && !mb) := ⟨_, rfl⟩
                rw [← hbb]
                have HB := Lib.hid hbb
                clear hbb
                cases bb
                · have hf := HB.out
                  have key2 : farE r.length i k → meetE r i k = 0 := fun e => by
                    have q1 : fb = true := by rw [HS.out.2.1]; exact decide_eq_true e
                    rw [q1, Bool.true_and] at hf
                    have q2 : mb = true := by cases mb; · cases hf
                                              · rfl
                    exact of_decide_eq_true (HS.out.2.2 ▸ q2)
                  have HK := Lib.hid key2
                  clear hf key2
                  go_wp2_with fail
                  go_roundg (r.length - (k + 1))
                  case measure => omega
                  case rel => exact ⟨k + 1, by omega, hlt3, Nat.le_refl _, by go_num, by (repeat (first | (with_reducible exact SinceOf.refl _) | (with_reducible assumption) | (with_reducible refine SinceOf.alloc ?_ _) | (with_reducible refine SinceOf.drew ?_) | (with_reducible refine SinceOf.drewN ?_ _) | (with_reducible refine SinceOf.later ?_ _) | (with_reducible refine SinceOf.further ?_ _) | (with_reducible refine SinceOf.setCell ?_ (by first | exact Nat.le_refl _ | (simp; done) | omega | (simp; omega)) _))), fun k' h1 h2 => by
                    rcases Nat.lt_or_ge k' k with q | q
                    · exact HS.out.1 k' q h2
                    · obtain rfl : k' = k := by omega
                      exact HK.out h2⟩
                · have hf := HB.out.symm
                  rw [Bool.and_eq_true] at hf
                  obtain rfl : res = false := by
                    rw [← HR.out]
                    refine okB_far hlt3 (of_decide_eq_true (HS.out.2.1 ▸ hf.1)) (fun e => ?_)
                    have := HS.out.2.2
                    rw [e] at this
                    rw [this] at hf
                    simp at hf
                  clear hf
                  go_wp2_with fail
                  go_returns
                  exact ⟨rfl, by (repeat (first | (with_reducible exact SinceOf.refl _) | (with_reducible assumption) | (with_reducible refine SinceOf.alloc ?_ _) | (with_reducible refine SinceOf.drew ?_) | (with_reducible refine SinceOf.drewN ?_ _) | (with_reducible refine SinceOf.later ?_ _) | (with_reducible refine SinceOf.further ?_ _) | (with_reducible refine SinceOf.setCell ?_ (by first | exact Nat.le_refl _ | (simp; done) | omega | (simp; omega)) _)))⟩
            · obtain rfl : k = r.length := by omega
              have HB := Lib.hid hall
              clear hall
              go_wp2_with fail
              go_roundg (r.length - (i + 1))
              case measure => omega
              case rel => exact ⟨i + 1, hlt2, Nat.le_refl _, by go_num, by (repeat (first | (with_reducible exact SinceOf.refl _) | (with_reducible assumption) | (with_reducible refine SinceOf.alloc ?_ _) | (with_reducible refine SinceOf.drew ?_) | (with_reducible refine SinceOf.drewN ?_ _) | (with_reducible refine SinceOf.later ?_ _) | (with_reducible refine SinceOf.further ?_ _) | (with_reducible refine SinceOf.setCell ?_ (by first | exact Nat.le_refl _ | (simp; done) | omega | (simp; omega)) _))), fun i' k h1 h2 h3 => by
                rcases Nat.lt_or_ge i' i with q | q
                · exact HA.out i' k q h2 h3
                · obtain rfl : i' = i := by omega
                  exact HB.out k h2 h3⟩
        · obtain rfl : i = r.length := by omega
          obtain rfl : res = true := by
            rw [← HR.out, okB_iff]
            exact ⟨by omega, by omega, List.all_eq_true.1 HN2.out.2, HT.out, fun i' k hk hf => HA.out i' k (by have := hf.1; omega) hk hf, HN2.out.1⟩
          go_wp2_with fail
          go_returns
          exact ⟨rfl, by (repeat (first | (with_reducible exact SinceOf.refl _) | (with_reducible assumption) | (with_reducible refine SinceOf.alloc ?_ _) | (with_reducible refine SinceOf.drew ?_) | (with_reducible refine SinceOf.drewN ?_ _) | (with_reducible refine SinceOf.later ?_ _) | (with_reducible refine SinceOf.further ?_ _) | (with_reducible refine SinceOf.setCell ?_ (by first | exact Nat.le_refl _ | (simp; done) | omega | (simp; omega)) _)))⟩
end Go.Proofs.YtkpnffokjpgalaaGreat
/- Layer 46: within, Signed and Valid of the reference of layer 8. -/
namespace Go.Proofs.YtkpnffokjpgalaaGreat
set_option linter.unusedVariables false
set_option linter.unusedSimpArgs false
open Go.RowKit Go.Sort
attribute [local go_sem ↓] Go.wp_at_zero Go.wp_at_succ

set_option maxRecDepth 100000 in
set_option maxHeartbeats 4000000 in
theorem refWithinR_any (A : Option Addr) (c : Nat) (r : List (Int × Int)) (w : World) (h : IsVecs w A c r) (hlen : r.length < 4611686018427387904) :
    Gives Tryz.prog 71 #[.slice A r.length c] w (.bool (nearR r)) := by
  apply Gives.ret
  have H := Lib.hid h
  clear h
  generalize hres : nearR r = res
  have HR := Lib.hid hres
  clear hres
  go_enter Tryz.func71, Tryz.ntmps71
  go_wp2_with fail
  go_loopg [3] r.length (fun gas s3 wr => ∃ i : Nat, i ≤ r.length ∧ r.length - i ≤ gas ∧ s3 = .int .i64 i ∧ LaterOf w wr ∧ ∀ j (hj : j < r.length), j < i → inR r[j] = true)
  case atStart => exact ⟨0, by omega, by omega, rfl, by (repeat (first | (with_reducible exact LaterOf.refl _) | (with_reducible refine LaterOf.alloc ?_ _) | (with_reducible refine LaterOf.drew ?_) | (with_reducible refine LaterOf.drewN ?_ _) | (with_reducible refine LaterOf.later ?_ _) | (with_reducible refine LaterOf.setCell ?_ (by first | exact Nat.le_refl _ | (simp; done) | omega | (simp; omega)) _))), fun j hj h => absurd h (by omega)⟩
  case round =>
    obtain ⟨i, hi, hgas, rfl, ⟨z, rfl⟩, hall⟩ := hrel
    by_cases hlt : i < r.length
    · have hr0 := H.out.of (w' := z.wd) (by (repeat (first | (with_reducible exact SinceOf.refl _) | (with_reducible assumption) | (with_reducible refine SinceOf.alloc ?_ _) | (with_reducible refine SinceOf.drew ?_) | (with_reducible refine SinceOf.drewN ?_ _) | (with_reducible refine SinceOf.later ?_ _) | (with_reducible refine SinceOf.further ?_ _) | (with_reducible refine SinceOf.setCell ?_ (by first | exact Nat.le_refl _ | (simp; done) | omega | (simp; omega)) _))))
      obtain ⟨g, off, rfl, hr⟩ := hr0.at_ (by omega)
      have hO := hr.there
      have a0 := hr.v0 i hlt
      have a1 := hr.v1 i hlt
      have W1 := refWithin_any r[i].1 r[i].2 2000
      rw [show withinB r[i].1 r[i].2 2000 = inR r[i] from rfl] at W1
      obtain ⟨bv, hbv⟩ : ∃ b, b = inR r[i] := ⟨_, rfl⟩
      rw [← hbv] at W1
      have HS := Lib.hid (And.intro hall hbv)
      generalize r[i].1 = ax at *
      generalize r[i].2 = ay at *
      clear hr hr0 hall hbv
      go_wp2_with fail
      refine (W1 _).calls.mono ?_
      rintro e _ ⟨rfl, x1, rfl⟩
      clear W1
      cases bv
      · obtain rfl : res = false := by
          rw [← HR.out]
          cases e : nearR r
          · rfl
          · have := List.all_eq_true.1 e _ (List.getElem_mem hlt)
            have h2 := HS.out.2
            unfold inR at h2
            rw [this] at h2
            exact h2.symm
        go_wp2_with fail
        go_returns
        exact ⟨rfl, by (repeat (first | (with_reducible exact LaterOf.refl _) | (with_reducible refine LaterOf.alloc ?_ _) | (with_reducible refine LaterOf.drew ?_) | (with_reducible refine LaterOf.drewN ?_ _) | (with_reducible refine LaterOf.later ?_ _) | (with_reducible refine LaterOf.setCell ?_ (by first | exact Nat.le_refl _ | (simp; done) | omega | (simp; omega)) _)))⟩
      · go_wp2_with fail
        go_roundg (r.length - (i + 1))
        case measure => omega
        case rel => exact ⟨i + 1, hlt, Nat.le_refl _, by go_num, by (repeat (first | (with_reducible exact LaterOf.refl _) | (with_reducible refine LaterOf.alloc ?_ _) | (with_reducible refine LaterOf.drew ?_) | (with_reducible refine LaterOf.drewN ?_ _) | (with_reducible refine LaterOf.later ?_ _) | (with_reducible refine LaterOf.setCell ?_ (by first | exact Nat.le_refl _ | (simp; done) | omega | (simp; omega)) _))), fun j hj h => by
          rcases Nat.lt_or_ge j i with q | q
          · exact HS.out.1 j hj q
          · obtain rfl : j = i := by omega
            exact HS.out.2.symm⟩
    · obtain rfl : i = r.length := by omega
      obtain rfl : res = true := by
        rw [← HR.out]
        unfold nearR
        rw [List.all_eq_true]
        intro p hp
        obtain ⟨j, hj, rfl⟩ := List.mem_iff_getElem.1 hp
        exact hall j hj hj
      clear hall
      go_wp2_with fail
      go_returns
      exact ⟨rfl, by (repeat (first | (with_reducible exact LaterOf.refl _) | (with_reducible refine LaterOf.alloc ?_ _) | (with_reducible refine LaterOf.drew ?_) | (with_reducible refine LaterOf.drewN ?_ _) | (with_reducible refine LaterOf.later ?_ _) | (with_reducible refine LaterOf.setCell ?_ (by first | exact Nat.le_refl _ | (simp; done) | omega | (simp; omega)) _)))⟩
set_option maxRecDepth 100000 in
set_option maxHeartbeats 8000000 in
theorem refSigned_any (A : Option Addr) (c : Nat) (r : List (Int × Int)) (w : World) (h : IsVecs w A c r) (hlen : r.length ≤ 100) (hn : ∀ p ∈ r, near2 p) :
    Gives Tryz.prog 72 #[.slice A r.length c] w (.int .i64 (area2V r)) := by
  apply Gives.ret
  have AN := fun i hi => areaS_near hn i hi
  have AT := fun i hi => areaT_near hn (i := i) hi
  have H := Lib.hid (And.intro h (And.intro AN AT))
  clear h AN AT hn
  rw [area2V_S]
  go_enter Tryz.func72, Tryz.ntmps72
  go_wp2_with fail
  go_loopg [3, 4] r.length (fun gas s3 s4 wr => ∃ (i : Nat) (n : Int), i ≤ r.length ∧ r.length - i ≤ gas ∧ s3 = .int .i64 n ∧ n = areaS r i ∧ s4 = .int .i64 i ∧ LaterOf w wr)
  case atStart => exact ⟨0, 0, by omega, by omega, rfl, rfl, rfl, by (repeat (first | (with_reducible exact LaterOf.refl _) | (with_reducible refine LaterOf.alloc ?_ _) | (with_reducible refine LaterOf.drew ?_) | (with_reducible refine LaterOf.drewN ?_ _) | (with_reducible refine LaterOf.later ?_ _) | (with_reducible refine LaterOf.setCell ?_ (by first | exact Nat.le_refl _ | (simp; done) | omega | (simp; omega)) _)))⟩
  case round =>
    obtain ⟨i, n, hi, hgas, rfl, hn, rfl, ⟨z, rfl⟩⟩ := hrel
    by_cases hlt : i < r.length
    · have hr0 := H.out.1.of (w' := z.wd) (by (repeat (first | (with_reducible exact SinceOf.refl _) | (with_reducible assumption) | (with_reducible refine SinceOf.alloc ?_ _) | (with_reducible refine SinceOf.drew ?_) | (with_reducible refine SinceOf.drewN ?_ _) | (with_reducible refine SinceOf.later ?_ _) | (with_reducible refine SinceOf.further ?_ _) | (with_reducible refine SinceOf.setCell ?_ (by first | exact Nat.le_refl _ | (simp; done) | omega | (simp; omega)) _))))
      obtain ⟨g, off, rfl, hr⟩ := hr0.at_ (by omega)
      have hO := hr.there
      have hq : (i + 1) % r.length < r.length := Nat.mod_lt _ (by omega)
      have a0 := hr.v0 i hlt
      have a1 := hr.v1 i hlt
      have b0 := hr.v0 _ hq
      have b1 := hr.v1 _ hq
      have hqt : Int.tmod ((i : Int) + 1) (r.length : Int) = (((i + 1) % r.length : Nat) : Int) := by rw [Int.tmod_eq_emod_of_nonneg (by omega), Int.natCast_emod, Int.natCast_add]; rfl
      have C1 := refCross_any r[i].1 r[i].2 r[(i + 1) % r.length].1 r[(i + 1) % r.length].2
      obtain ⟨t1, t2, t3⟩ := H.out.2.2 i hlt
      have t4 := H.out.2.1 i hi
      have t5 := H.out.2.1 (i + 1) hlt
      rw [show areaS r (i + 1) = areaS r i + areaT r i from rfl] at t5
      rw [show at0 r i = r[i] from at0_eq hlt, show rv r (i + 1) = r[(i + 1) % r.length] from at0_eq hq] at t3
      rw [t3] at C1
      rw [← hn] at t4 t5
      have hs : areaS r (i + 1) = n + areaT r i := by rw [hn]; rfl
      have HS := Lib.hid (And.intro hs hn)
      generalize areaT r i = t at *
      generalize r[(i + 1) % r.length].1 = bx at *
      generalize r[(i + 1) % r.length].2 = by_ at *
      generalize (i + 1) % r.length = q at *
      generalize r[i].1 = ax at *
      generalize r[i].2 = ay at *
      have w1 : IntKind.i64.wrap (n + t) = n + t := IntWalk.i64_in _ (by omega)
      have w2 : IntKind.i64.wrap ((i : Int) + 1) = (i : Int) + 1 := IntWalk.i64_in _ (by omega)
      have hn0 : ¬ (r.length : Int) = 0 := by omega
      have hrn : ¬ r = [] := fun e => by (rw [e] at hlt; simp at hlt)
      have i1 : (0 : Int) ≤ (q : Int) := by omega
      have i2 : (q : Int) < (r.length : Int) := by omega
      clear hr hr0 hs hn t3 t4 t5 t1 t2
      go_wp2_with fail
      refine region_later (by kernel_rfl) (by kernel_rfl) ?_
      repeat (go_big_quiet_step ((first | (with_reducible refine Gives.later (C1 _)))))
      refine wpQuiet_nil ?_
      rintro _ ⟨z4, rfl⟩
      clear w2 hqt hrn
      go_wp2_with fail
      go_roundg (r.length - (i + 1))
      case measure => omega
      case rel => exact ⟨i + 1, n + t, hlt, Nat.le_refl _, rfl, HS.out.1.symm, by go_num, by (repeat (first | (with_reducible exact LaterOf.refl _) | (with_reducible refine LaterOf.alloc ?_ _) | (with_reducible refine LaterOf.drew ?_) | (with_reducible refine LaterOf.drewN ?_ _) | (with_reducible refine LaterOf.later ?_ _) | (with_reducible refine LaterOf.setCell ?_ (by first | exact Nat.le_refl _ | (simp; done) | omega | (simp; omega)) _)))⟩
    · obtain rfl : i = r.length := by omega
      subst hn
      go_wp2_with fail
      go_returns
      exact ⟨rfl, by (repeat (first | (with_reducible exact LaterOf.refl _) | (with_reducible refine LaterOf.alloc ?_ _) | (with_reducible refine LaterOf.drew ?_) | (with_reducible refine LaterOf.drewN ?_ _) | (with_reducible refine LaterOf.later ?_ _) | (with_reducible refine LaterOf.setCell ?_ (by first | exact Nat.le_refl _ | (simp; done) | omega | (simp; omega)) _)))⟩
end Go.Proofs.YtkpnffokjpgalaaGreat
/- Layer 46: Valid of the reference of layer 8. -/
namespace Go.Proofs.YtkpnffokjpgalaaGreat
set_option linter.unusedVariables false
set_option linter.unusedSimpArgs false
open Go.RowKit Go.Sort
attribute [local go_sem ↓] Go.wp_at_zero Go.wp_at_succ

theorem edges_meetI {r : List Pt} (hn : ∀ p ∈ r, near2 p) {i k : Nat} (hi : i < r.length) (hk : k < r.length) : meetI (at0 r i, rv r (i + 1)) (at0 r k, rv r (k + 1)) = meetE r i k := by
  have n1 := near2_4 (hn _ (at0_mem hi))
  have n2 := near2_4 (hn _ (rv_mem (r := r) (i := i + 1) (by omega)))
  have n3 := near2_4 (hn _ (at0_mem hk))
  have n4 := near2_4 (hn _ (rv_mem (r := r) (i := k + 1) (by omega)))
  exact meetI_K (segOk_near.2 ⟨n1, n2⟩) (segOk_near.2 ⟨n3, n4⟩)
/-- Is the pair of edges as the reference wants it? -/
def adjB (n i k : Nat) : Bool := decide (k = i + 1 ∨ i = 0 ∧ k = n - 1)
theorem pairR_adj {r : List Pt} {i k : Nat} : pairR r i k ↔ (adjB r.length i k = true ∧ meetE r i k = 1) ∨ (adjB r.length i k = false ∧ meetE r i k = 0) := by
  unfold pairR adjB meetE
  by_cases h : k = i + 1 ∨ i = 0 ∧ k = r.length - 1
  · rw [if_pos h, decide_eq_true h]; simp
  · rw [if_neg h, decide_eq_false h]; simp
set_option maxRecDepth 100000 in
set_option maxHeartbeats 16000000 in
theorem refRingValid_any (A : Option Addr) (c : Nat) (r : List (Int × Int)) (w : World) (h : IsVecs w A c r) (hlen : r.length < 4611686018427387904) :
    Yields Tryz.prog 28 #[.slice A r.length c] w (.bool (okB r)) := by
  apply Yields.ret
  have N := fun W (hW : SinceOf w W) => refWithinR_any A c r W (h.of hW) hlen
  have H := Lib.hid h
  clear h
  generalize hres : okB r = res
  have HR := Lib.hid hres
  clear hres
  by_cases h3 : r.length < 3
  · have g1 : decide ((r.length : Int) < 3) = true := decide_eq_true (by omega)
    obtain rfl : res = false := by rw [← HR.out]; exact okB_len (by omega)
    clear h3 N
    go_enter Tryz.func28, Tryz.ntmps28
    go_wp2_with fail
    go_returns
    exact ⟨rfl, by (repeat (first | (with_reducible exact SinceOf.refl _) | (with_reducible assumption) | (with_reducible refine SinceOf.alloc ?_ _) | (with_reducible refine SinceOf.drew ?_) | (with_reducible refine SinceOf.drewN ?_ _) | (with_reducible refine SinceOf.later ?_ _) | (with_reducible refine SinceOf.further ?_ _) | (with_reducible refine SinceOf.setCell ?_ (by first | exact Nat.le_refl _ | (simp; done) | omega | (simp; omega)) _)))⟩
  have g1 : decide ((r.length : Int) < 3) = false := decide_eq_false (by omega)
  by_cases h40 : 40 < r.length
  · have g2 : decide (40 < (r.length : Int)) = true := decide_eq_true (by omega)
    obtain rfl : res = false := by rw [← HR.out]; exact okB_len (by omega)
    clear h3 h40 N
    go_enter Tryz.func28, Tryz.ntmps28
    go_wp2_with fail
    go_returns
    exact ⟨rfl, by (repeat (first | (with_reducible exact SinceOf.refl _) | (with_reducible assumption) | (with_reducible refine SinceOf.alloc ?_ _) | (with_reducible refine SinceOf.drew ?_) | (with_reducible refine SinceOf.drewN ?_ _) | (with_reducible refine SinceOf.later ?_ _) | (with_reducible refine SinceOf.further ?_ _) | (with_reducible refine SinceOf.setCell ?_ (by first | exact Nat.le_refl _ | (simp; done) | omega | (simp; omega)) _)))⟩
  have g2 : decide (40 < (r.length : Int)) = false := decide_eq_false (by omega)
  cases hn : nearR r
  · rw [hn] at N
    obtain rfl : res = false := by rw [← HR.out]; exact okB_near hn
    clear hn
    go_enter Tryz.func28, Tryz.ntmps28
    go_wp2_with fail
    refine (N _ (by (repeat (first | (with_reducible exact SinceOf.refl _) | (with_reducible assumption) | (with_reducible refine SinceOf.alloc ?_ _) | (with_reducible refine SinceOf.drew ?_) | (with_reducible refine SinceOf.drewN ?_ _) | (with_reducible refine SinceOf.later ?_ _) | (with_reducible refine SinceOf.further ?_ _) | (with_reducible refine SinceOf.setCell ?_ (by first | exact Nat.le_refl _ | (simp; done) | omega | (simp; omega)) _))))).calls.mono ?_
    rintro e _ ⟨rfl, x1, rfl⟩
    go_wp2_with fail
    go_returns
    exact ⟨rfl, by (repeat (first | (with_reducible exact SinceOf.refl _) | (with_reducible assumption) | (with_reducible refine SinceOf.alloc ?_ _) | (with_reducible refine SinceOf.drew ?_) | (with_reducible refine SinceOf.drewN ?_ _) | (with_reducible refine SinceOf.later ?_ _) | (with_reducible refine SinceOf.further ?_ _) | (with_reducible refine SinceOf.setCell ?_ (by first | exact Nat.le_refl _ | (simp; done) | omega | (simp; omega)) _)))⟩
  rw [hn] at N
  have AR := fun W (hW : SinceOf w W) => refSigned_any A c r W (H.out.of hW) (by omega) (nearR_all hn)
  have E := fun W (hW : SinceOf w W) => refEdges_any A c r W (H.out.of hW) (by omega)
  have HN := Lib.hid (And.intro AR (And.intro hn E))
  clear hn AR E
  go_enter Tryz.func28, Tryz.ntmps28
  go_wp2_with fail
  refine (N _ (by (repeat (first | (with_reducible exact SinceOf.refl _) | (with_reducible assumption) | (with_reducible refine SinceOf.alloc ?_ _) | (with_reducible refine SinceOf.drew ?_) | (with_reducible refine SinceOf.drewN ?_ _) | (with_reducible refine SinceOf.later ?_ _) | (with_reducible refine SinceOf.further ?_ _) | (with_reducible refine SinceOf.setCell ?_ (by first | exact Nat.le_refl _ | (simp; done) | omega | (simp; omega)) _))))).calls.mono ?_
  rintro e _ ⟨rfl, x1, rfl⟩
  clear N
  go_wp2_with fail
  clear g1 g2
  go_loopg [4] r.length (fun gas s4 wr => ∃ i : Nat, i ≤ r.length ∧ r.length - i ≤ gas ∧ s4 = .int .i64 i ∧ SinceOf w wr ∧ ∀ j, j < i → det (at0 r j) (rv r (j + 1)) (rv r (j + 2)) ≠ 0)
  case atStart => exact ⟨0, by omega, by omega, rfl, by (repeat (first | (with_reducible exact SinceOf.refl _) | (with_reducible assumption) | (with_reducible refine SinceOf.alloc ?_ _) | (with_reducible refine SinceOf.drew ?_) | (with_reducible refine SinceOf.drewN ?_ _) | (with_reducible refine SinceOf.later ?_ _) | (with_reducible refine SinceOf.further ?_ _) | (with_reducible refine SinceOf.setCell ?_ (by first | exact Nat.le_refl _ | (simp; done) | omega | (simp; omega)) _))), fun j hj => absurd hj (by omega)⟩
  case round =>
    obtain ⟨i, hi, hgas, rfl, ⟨z, rfl⟩, hall⟩ := hrel
    by_cases hlt : i < r.length
    · have hr0 := H.out.of (w' := z.wd) (by (repeat (first | (with_reducible exact SinceOf.refl _) | (with_reducible assumption) | (with_reducible refine SinceOf.alloc ?_ _) | (with_reducible refine SinceOf.drew ?_) | (with_reducible refine SinceOf.drewN ?_ _) | (with_reducible refine SinceOf.later ?_ _) | (with_reducible refine SinceOf.further ?_ _) | (with_reducible refine SinceOf.setCell ?_ (by first | exact Nat.le_refl _ | (simp; done) | omega | (simp; omega)) _))))
      obtain ⟨g, off, rfl, hr⟩ := hr0.at_ (by omega)
      have hO := hr.there
      have hq1 : (i + 1) % r.length < r.length := Nat.mod_lt _ (by omega)
      have hq2 : (i + 2) % r.length < r.length := Nat.mod_lt _ (by omega)
      have a0 := hr.v0 i hlt
      have a1 := hr.v1 i hlt
      have b0 := hr.v0 _ hq1
      have b1 := hr.v1 _ hq1
      have c0 := hr.v0 _ hq2
      have c1 := hr.v1 _ hq2
      have hqt1 : Int.tmod ((i : Int) + 1) (r.length : Int) = (((i + 1) % r.length : Nat) : Int) := by rw [Int.tmod_eq_emod_of_nonneg (by omega), Int.natCast_emod, Int.natCast_add]; rfl
      have hqt2 : Int.tmod ((i : Int) + 2) (r.length : Int) = (((i + 2) % r.length : Nat) : Int) := by rw [Int.tmod_eq_emod_of_nonneg (by omega), Int.natCast_emod, Int.natCast_add]; rfl
      have e0 : at0 r i = r[i] := at0_eq hlt
      have e1 : rv r (i + 1) = r[(i + 1) % r.length] := at0_eq hq1
      have e2 : rv r (i + 2) = r[(i + 2) % r.length] := at0_eq hq2
      have T := refTurn_any (at0 r i).1 (at0 r i).2 (rv r (i + 1)).1 (rv r (i + 1)).2 (rv r (i + 2)).1 (rv r (i + 2)).2
      have ns := nearR_all HN.out.2.1
      rw [turn_det (near2_4 (ns _ (at0_mem hlt))) (near2_4 (ns _ (rv_mem (by omega)))) (near2_4 (ns _ (rv_mem (by omega))))] at T
      obtain ⟨bv, hbv⟩ : ∃ b, b = decide (det (at0 r i) (rv r (i + 1)) (rv r (i + 2)) = 0) := ⟨_, rfl⟩
      have hb2 : (cmpi (det (at0 r i) (rv r (i + 1)) (rv r (i + 2))) 0 == 0) = bv := by
        rw [hbv]
        exact Bool.eq_iff_iff.2 (by simp only [beq_iff_eq, decide_eq_true_eq, cmpi_zero])
      have HS := Lib.hid (And.intro hall hbv)
      generalize cmpi (det (at0 r i) (rv r (i + 1)) (rv r (i + 2))) 0 = tv at *
      rw [e0, e1, e2] at T
      clear e0 e1 e2
      generalize r[(i + 1) % r.length].1 = bx at *
      generalize r[(i + 1) % r.length].2 = by_ at *
      generalize r[(i + 2) % r.length].1 = cx at *
      generalize r[(i + 2) % r.length].2 = cy at *
      generalize (i + 1) % r.length = q1 at *
      generalize (i + 2) % r.length = q2 at *
      generalize r[i].1 = ax at *
      generalize r[i].2 = ay at *
      have w1 : IntKind.i64.wrap ((i : Int) + 1) = (i : Int) + 1 := IntWalk.i64_in _ (by omega)
      have w2 : IntKind.i64.wrap ((i : Int) + 2) = (i : Int) + 2 := IntWalk.i64_in _ (by omega)
      have hn0 : ¬ (r.length : Int) = 0 := by omega
      have hrn : ¬ r = [] := fun e => by (rw [e] at hlt; simp at hlt)
      have i1 : (0 : Int) ≤ (q1 : Int) := by omega
      have i2 : (q1 : Int) < (r.length : Int) := by omega
      have i3 : (0 : Int) ≤ (q2 : Int) := by omega
      have i4 : (q2 : Int) < (r.length : Int) := by omega
      clear hr hr0 hall hbv ns
      go_wp2_with fail
      refine region_later (by kernel_rfl) (by kernel_rfl) ?_
      repeat (go_big_quiet_step (((with_reducible refine Gives.later (T _)))))
      refine wpQuiet_nil ?_
      rintro _ ⟨z4, rfl⟩
      clear T w1 w2 hqt1 hqt2 hrn
      cases bv
      · go_wp2_with fail
        go_roundg (r.length - (i + 1))
        case measure => omega
        case rel => exact ⟨i + 1, hlt, Nat.le_refl _, by go_num, by (repeat (first | (with_reducible exact SinceOf.refl _) | (with_reducible assumption) | (with_reducible refine SinceOf.alloc ?_ _) | (with_reducible refine SinceOf.drew ?_) | (with_reducible refine SinceOf.drewN ?_ _) | (with_reducible refine SinceOf.later ?_ _) | (with_reducible refine SinceOf.further ?_ _) | (with_reducible refine SinceOf.setCell ?_ (by first | exact Nat.le_refl _ | (simp; done) | omega | (simp; omega)) _))), fun j hj => by
          rcases Nat.lt_or_ge j i with q | q
          · exact HS.out.1 j q
          · obtain rfl : j = i := by omega
            exact of_decide_eq_false HS.out.2.symm⟩
      · obtain rfl : res = false := by rw [← HR.out]; exact okB_turn' hlt (of_decide_eq_true HS.out.2.symm)
        go_wp2_with fail
        go_returns
        exact ⟨rfl, by (repeat (first | (with_reducible exact SinceOf.refl _) | (with_reducible assumption) | (with_reducible refine SinceOf.alloc ?_ _) | (with_reducible refine SinceOf.drew ?_) | (with_reducible refine SinceOf.drewN ?_ _) | (with_reducible refine SinceOf.later ?_ _) | (with_reducible refine SinceOf.further ?_ _) | (with_reducible refine SinceOf.setCell ?_ (by first | exact Nat.le_refl _ | (simp; done) | omega | (simp; omega)) _)))⟩
    · obtain rfl : i = r.length := by omega
      have HT := Lib.hid hall
      have E := HN.out.2.2 z.wd (by (repeat (first | (with_reducible exact SinceOf.refl _) | (with_reducible assumption) | (with_reducible refine SinceOf.alloc ?_ _) | (with_reducible refine SinceOf.drew ?_) | (with_reducible refine SinceOf.drewN ?_ _) | (with_reducible refine SinceOf.later ?_ _) | (with_reducible refine SinceOf.further ?_ _) | (with_reducible refine SinceOf.setCell ?_ (by first | exact Nat.le_refl _ | (simp; done) | omega | (simp; omega)) _))))
      have HN2 := Lib.hid (And.intro HN.out.1 HN.out.2.1)
      clear hall HN
      go_wp2_with fail
      refine E.mono ?_
      rintro e _ ⟨A4, c4, rfl, ho4, ⟨x4, rfl⟩⟩
      have hel : (edgesV r).length = r.length := edgesV_len (by omega)
      have H4 := Lib.hid (And.intro ho4 hel)
      clear ho4 hel E
      go_wp2_with fail
      go_loopg [6] r.length (fun gas s6 wr => ∃ i : Nat, i ≤ r.length ∧ r.length - i ≤ gas ∧ s6 = .int .i64 i ∧ SinceOf x4.wd wr ∧ ∀ i' k, i' < i → i' < k → k < r.length → pairR r i' k)
      case atStart => exact ⟨0, by omega, by omega, rfl, by (repeat (first | (with_reducible exact SinceOf.refl _) | (with_reducible assumption) | (with_reducible refine SinceOf.alloc ?_ _) | (with_reducible refine SinceOf.drew ?_) | (with_reducible refine SinceOf.drewN ?_ _) | (with_reducible refine SinceOf.later ?_ _) | (with_reducible refine SinceOf.further ?_ _) | (with_reducible refine SinceOf.setCell ?_ (by first | exact Nat.le_refl _ | (simp; done) | omega | (simp; omega)) _))), fun i' k h1 h2 h3 => absurd h1 (by omega)⟩
      case round =>
        obtain ⟨i, hi, hgas2, rfl, ⟨y, rfl⟩, hall⟩ := hrel
        have HA := Lib.hid hall
        clear hall
        by_cases hlt2 : i < r.length
        · go_wp2_with fail
          go_loopg [7] r.length (fun gas s7 wr => ∃ k : Nat, i < k ∧ k ≤ r.length ∧ r.length - k ≤ gas ∧ s7 = .int .i64 k ∧ SinceOf y.wd wr ∧ ∀ k', i < k' → k' < k → pairR r i k')
          case atStart => exact ⟨i + 1, by omega, by omega, by omega, by go_num, by (repeat (first | (with_reducible exact SinceOf.refl _) | (with_reducible assumption) | (with_reducible refine SinceOf.alloc ?_ _) | (with_reducible refine SinceOf.drew ?_) | (with_reducible refine SinceOf.drewN ?_ _) | (with_reducible refine SinceOf.later ?_ _) | (with_reducible refine SinceOf.further ?_ _) | (with_reducible refine SinceOf.setCell ?_ (by first | exact Nat.le_refl _ | (simp; done) | omega | (simp; omega)) _))), fun k' h1 h2 => absurd h2 (by omega)⟩
          case round =>
            obtain ⟨k, hik, hk, hgas3, rfl, ⟨v, rfl⟩, hall⟩ := hrel
            by_cases hlt3 : k < r.length
            · obtain ⟨ab, hab⟩ : ∃ b, b = adjB r.length i k := ⟨_, rfl⟩
              have M := refMeet_any (at0 r i, rv r (i + 1)) (at0 r k, rv r (k + 1))
              rw [edges_meetI (nearR_all HN2.out.2) hlt2 hlt3] at M
              change ∀ w, Yields _ _ #[sg (at0 r i).1 (at0 r i).2 (rv r (i + 1)).1 (rv r (i + 1)).2, sg (at0 r k).1 (at0 r k).2 (rv r (k + 1)).1 (rv r (k + 1)).2] w _ at M
              have row := (H4.out.1.isRow encE_len).of (w' := v.wd) (SinceOf.trans ⟨y, rfl⟩ ⟨v, rfl⟩)
              obtain ⟨g, off, rfl, hr⟩ := row.at_ (by rw [H4.out.2]; omega)
              have hO := hr.there
              have h2e : ¬ r.length < 2 := by omega
              have hie : i < (edgesV r).length := by rw [H4.out.2]; exact hlt2
              have hke : k < (edgesV r).length := by rw [H4.out.2]; exact hlt3
              have b0 := hr.e0 i hie
              have b1 := hr.e1 i hie
              have b2 := hr.e2 i hie
              have b3 := hr.e3 i hie
              have d0 := hr.e0 k hke
              have d1 := hr.e1 k hke
              have d2 := hr.e2 k hke
              have d3 := hr.e3 k hke
              rw [edgesV_at h2e hlt2] at b0 b1 b2 b3
              rw [edgesV_at h2e hlt3] at d0 d1 d2 d3
              have hel1 := hie
              have hel2 := hke
              simp only at b0 b1 b2 b3 d0 d1 d2 d3
              obtain ⟨m, hm⟩ : ∃ m, m = meetE r i k := ⟨_, rfl⟩
              rw [← hm] at M
              have hpr : pairR r i k ↔ (ab = true ∧ m = 1) ∨ (ab = false ∧ m = 0) := by rw [hab, hm]; exact pairR_adj
              have HS := Lib.hid (And.intro hall (And.intro hpr hab))
              clear hall hab row hr hie hke hpr hm
              generalize (at0 r i).1 = p0 at *
              generalize (at0 r i).2 = p1 at *
              generalize (rv r (i + 1)).1 = p2 at *
              generalize (rv r (i + 1)).2 = p3 at *
              generalize (at0 r k).1 = q0 at *
              generalize (at0 r k).2 = q1 at *
              generalize (rv r (k + 1)).1 = q2 at *
              generalize (rv r (k + 1)).2 = q3 at *
              generalize edgesV r = ED at *
              go_upto_region 16 with fail
              go_cut [8] from 62 to 75 (fun s8 wx => s8 = .bool ab ∧ SinceOf v.wd wx)
              case first =>
                clear M
                by_cases c1 : k = i + 1
                · have f1 : ((k : Int) == (i : Int) + 1) = true := by simp; omega
                  have HF := Lib.hid (show ab = true by rw [HS.out.2.2]; exact decide_eq_true (.inl c1))
                  clear c1
                  go_wp2_with fail
                  go_meet
                  exact ⟨by rw [HF.out], by (repeat (first | (with_reducible exact SinceOf.refl _) | (with_reducible assumption) | (with_reducible refine SinceOf.alloc ?_ _) | (with_reducible refine SinceOf.drew ?_) | (with_reducible refine SinceOf.drewN ?_ _) | (with_reducible refine SinceOf.later ?_ _) | (with_reducible refine SinceOf.further ?_ _) | (with_reducible refine SinceOf.setCell ?_ (by first | exact Nat.le_refl _ | (simp; done) | omega | (simp; omega)) _)))⟩
                have f1 : ((k : Int) == (i : Int) + 1) = false := by simp; omega
                by_cases c2 : i = 0
                · have f2 : ((i : Int) == 0) = true := by simp; omega
                  by_cases c3 : k = r.length - 1
                  · have f3 : ((k : Int) == (r.length : Int) - 1) = true := by simp; omega
                    have HF := Lib.hid (show ab = true by rw [HS.out.2.2]; exact decide_eq_true (.inr ⟨c2, c3⟩))
                    clear c1 c2 c3
                    go_wp2_with fail
                    go_meet
                    exact ⟨by rw [HF.out], by (repeat (first | (with_reducible exact SinceOf.refl _) | (with_reducible assumption) | (with_reducible refine SinceOf.alloc ?_ _) | (with_reducible refine SinceOf.drew ?_) | (with_reducible refine SinceOf.drewN ?_ _) | (with_reducible refine SinceOf.later ?_ _) | (with_reducible refine SinceOf.further ?_ _) | (with_reducible refine SinceOf.setCell ?_ (by first | exact Nat.le_refl _ | (simp; done) | omega | (simp; omega)) _)))⟩
                  · have f3 : ((k : Int) == (r.length : Int) - 1) = false := by simp; omega
                    have HF := Lib.hid (show ab = false by rw [HS.out.2.2]; exact decide_eq_false (by omega))
                    clear c1 c2 c3
                    go_wp2_with fail
                    go_meet
                    exact ⟨by rw [HF.out], by (repeat (first | (with_reducible exact SinceOf.refl _) | (with_reducible assumption) | (with_reducible refine SinceOf.alloc ?_ _) | (with_reducible refine SinceOf.drew ?_) | (with_reducible refine SinceOf.drewN ?_ _) | (with_reducible refine SinceOf.later ?_ _) | (with_reducible refine SinceOf.further ?_ _) | (with_reducible refine SinceOf.setCell ?_ (by first | exact Nat.le_refl _ | (simp; done) | omega | (simp; omega)) _)))⟩
                · have f2 : ((i : Int) == 0) = false := by simp; omega
                  have HF := Lib.hid (show ab = false by rw [HS.out.2.2]; exact decide_eq_false (by omega))
                  clear c1 c2
                  go_wp2_with fail
                  go_meet
                  exact ⟨by rw [HF.out], by (repeat (first | (with_reducible exact SinceOf.refl _) | (with_reducible assumption) | (with_reducible refine SinceOf.alloc ?_ _) | (with_reducible refine SinceOf.drew ?_) | (with_reducible refine SinceOf.drewN ?_ _) | (with_reducible refine SinceOf.later ?_ _) | (with_reducible refine SinceOf.further ?_ _) | (with_reducible refine SinceOf.setCell ?_ (by first | exact Nat.le_refl _ | (simp; done) | omega | (simp; omega)) _)))⟩
              case rest =>
                obtain ⟨rfl, ⟨v5, rfl⟩⟩ := hcut
                go_wp2_with fail
                refine region_since (by kernel_rfl) (by kernel_rfl) ?_
                repeat (go_big_quiet_step (((with_reducible refine Yields.since (M _)))))
                refine wpQuiet_nil ?_
                rintro _ ⟨v6, rfl⟩
                clear M b0 b1 b2 b3 d0 d1 d2 d3
                cases ab
                · by_cases hm : m = 0
                  · subst hm
                    go_wp2_with fail
                    go_roundg (r.length - (k + 1))
                    case measure => omega
                    case rel => exact ⟨k + 1, by omega, hlt3, Nat.le_refl _, by go_num, by (repeat (first | (with_reducible exact SinceOf.refl _) | (with_reducible assumption) | (with_reducible refine SinceOf.alloc ?_ _) | (with_reducible refine SinceOf.drew ?_) | (with_reducible refine SinceOf.drewN ?_ _) | (with_reducible refine SinceOf.later ?_ _) | (with_reducible refine SinceOf.further ?_ _) | (with_reducible refine SinceOf.setCell ?_ (by first | exact Nat.le_refl _ | (simp; done) | omega | (simp; omega)) _))), fun k' h1 h2 => by
                      rcases Nat.lt_or_ge k' k with q | q
                      · exact HS.out.1 k' h1 q
                      · obtain rfl : k' = k := by omega
                        exact HS.out.2.1.2 (by simp)⟩
                  · obtain rfl : res = false := by
                      rw [← HR.out]
                      exact okB_pair hlt3 hik (fun e => by
                        rcases HS.out.2.1.1 e with e | e
                        · cases e.1
                        · exact hm e.2)
                    have hb : (m != 0) = true := by simpa using hm
                    go_wp2_with fail
                    go_returns
                    exact ⟨rfl, by (repeat (first | (with_reducible exact SinceOf.refl _) | (with_reducible assumption) | (with_reducible refine SinceOf.alloc ?_ _) | (with_reducible refine SinceOf.drew ?_) | (with_reducible refine SinceOf.drewN ?_ _) | (with_reducible refine SinceOf.later ?_ _) | (with_reducible refine SinceOf.further ?_ _) | (with_reducible refine SinceOf.setCell ?_ (by first | exact Nat.le_refl _ | (simp; done) | omega | (simp; omega)) _)))⟩
                · by_cases hm : m = 1
                  · subst hm
                    go_wp2_with fail
                    go_roundg (r.length - (k + 1))
                    case measure => omega
                    case rel => exact ⟨k + 1, by omega, hlt3, Nat.le_refl _, by go_num, by (repeat (first | (with_reducible exact SinceOf.refl _) | (with_reducible assumption) | (with_reducible refine SinceOf.alloc ?_ _) | (with_reducible refine SinceOf.drew ?_) | (with_reducible refine SinceOf.drewN ?_ _) | (with_reducible refine SinceOf.later ?_ _) | (with_reducible refine SinceOf.further ?_ _) | (with_reducible refine SinceOf.setCell ?_ (by first | exact Nat.le_refl _ | (simp; done) | omega | (simp; omega)) _))), fun k' h1 h2 => by
                      rcases Nat.lt_or_ge k' k with q | q
                      · exact HS.out.1 k' h1 q
                      · obtain rfl : k' = k := by omega
                        exact HS.out.2.1.2 (by simp)⟩
                  · obtain rfl : res = false := by
                      rw [← HR.out]
                      exact okB_pair hlt3 hik (fun e => by
                        rcases HS.out.2.1.1 e with e | e
                        · exact hm e.2
                        · cases e.1)
                    have hb : (m != 1) = true := by simpa using hm
                    go_wp2_with fail
                    go_returns
                    exact ⟨rfl, by (repeat (first | (with_reducible exact SinceOf.refl _) | (with_reducible assumption) | (with_reducible refine SinceOf.alloc ?_ _) | (with_reducible refine SinceOf.drew ?_) | (with_reducible refine SinceOf.drewN ?_ _) | (with_reducible refine SinceOf.later ?_ _) | (with_reducible refine SinceOf.further ?_ _) | (with_reducible refine SinceOf.setCell ?_ (by first | exact Nat.le_refl _ | (simp; done) | omega | (simp; omega)) _)))⟩
            · obtain rfl : k = r.length := by omega
              have HB := Lib.hid hall
              clear hall
              go_wp2_with fail
              go_roundg (r.length - (i + 1))
              case measure => omega
              case rel => exact ⟨i + 1, hlt2, Nat.le_refl _, by go_num, by (repeat (first | (with_reducible exact SinceOf.refl _) | (with_reducible assumption) | (with_reducible refine SinceOf.alloc ?_ _) | (with_reducible refine SinceOf.drew ?_) | (with_reducible refine SinceOf.drewN ?_ _) | (with_reducible refine SinceOf.later ?_ _) | (with_reducible refine SinceOf.further ?_ _) | (with_reducible refine SinceOf.setCell ?_ (by first | exact Nat.le_refl _ | (simp; done) | omega | (simp; omega)) _))), fun i' k h1 h2 h3 => by
                rcases Nat.lt_or_ge i' i with q | q
                · exact HA.out i' k q h2 h3
                · obtain rfl : i' = i := by omega
                  exact HB.out k h2 h3⟩
        · obtain rfl : i = r.length := by omega
          have AR := HN2.out.1 y.wd (by (repeat (first | (with_reducible exact SinceOf.refl _) | (with_reducible assumption) | (with_reducible refine SinceOf.alloc ?_ _) | (with_reducible refine SinceOf.drew ?_) | (with_reducible refine SinceOf.drewN ?_ _) | (with_reducible refine SinceOf.later ?_ _) | (with_reducible refine SinceOf.further ?_ _) | (with_reducible refine SinceOf.setCell ?_ (by first | exact Nat.le_refl _ | (simp; done) | omega | (simp; omega)) _))))
          obtain ⟨ar, har⟩ : ∃ a, a = area2V r := ⟨_, rfl⟩
          rw [← har] at AR
          have hfin : decide (0 < ar) = res := by
            rw [← HR.out, har]
            by_cases ha : 0 < area2V r
            · rw [decide_eq_true ha]
              exact (okB_iff.2 (isOk_of (by omega) (by omega) (List.all_eq_true.1 HN2.out.2) HT.out (fun i' k hk hik => HA.out i' k (by omega) hik hk) ha)).symm
            · rw [decide_eq_false ha]
              exact (okB_area ha).symm
          have HF := Lib.hid hfin
          clear har hfin
          go_wp2_with fail
          refine AR.calls.mono ?_
          rintro e _ ⟨rfl, x5, rfl⟩
          go_wp2_with fail
          go_returns
          exact ⟨by rw [← HF.out]; first | rfl | simp, by (repeat (first | (with_reducible exact SinceOf.refl _) | (with_reducible assumption) | (with_reducible refine SinceOf.alloc ?_ _) | (with_reducible refine SinceOf.drew ?_) | (with_reducible refine SinceOf.drewN ?_ _) | (with_reducible refine SinceOf.later ?_ _) | (with_reducible refine SinceOf.further ?_ _) | (with_reducible refine SinceOf.setCell ?_ (by first | exact Nat.le_refl _ | (simp; done) | omega | (simp; omega)) _)))⟩
end Go.Proofs.YtkpnffokjpgalaaGreat
