/- Layer 15: Valid of the program and of the reference. -/
import Derived.Test.YtpbgimdbhgahkaaGreatMink1
namespace Go.Proofs.YtpbgimdbhgahkaaGreat
open Go.RowKit Go.Sort
set_option linter.unusedVariables false
set_option linter.unusedSimpArgs false
attribute [local go_sem ↓] Go.wp_at_zero Go.wp_at_succ

set_option maxRecDepth 100000 in
set_option maxHeartbeats 8000000 in
theorem valid_any (A : Option Addr) (c : Nat) (r : List (Int × Int)) (w : World) (h : IsVecs w A c r) (hlen : r.length < 4611686018427387904) :
    Gives Tryz.prog 32 #[.slice A r.length c] w (.bool (validB r)) := by
  apply Gives.ret
  have H := Lib.hid h
  clear h
  generalize hres : validB r = res
  have HR := Lib.hid hres
  clear hres
  by_cases h3 : r.length < 3
  · have g1 : decide ((r.length : Int) < 3) = true := decide_eq_true (by omega)
    rw [validB_small (.inl h3)] at HR
    obtain rfl := HR.out
    clear h3
    go_enter Tryz.func32, Tryz.ntmps32
    go_wp2_with fail
    go_returns
    exact ⟨rfl, by (repeat (first | (with_reducible exact LaterOf.refl _) | (with_reducible refine LaterOf.alloc ?_ _) | (with_reducible refine LaterOf.drew ?_) | (with_reducible refine LaterOf.drewN ?_ _) | (with_reducible refine LaterOf.later ?_ _) | (with_reducible refine LaterOf.setCell ?_ (by first | exact Nat.le_refl _ | (simp; done) | omega | (simp; omega)) _)))⟩
  have g1 : decide ((r.length : Int) < 3) = false := decide_eq_false (by omega)
  by_cases h160 : 160 < r.length
  · have g2 : decide (160 < (r.length : Int)) = true := decide_eq_true (by omega)
    rw [validB_small (.inr h160)] at HR
    obtain rfl := HR.out
    clear h3 h160
    go_enter Tryz.func32, Tryz.ntmps32
    go_wp2_with fail
    go_returns
    exact ⟨rfl, by (repeat (first | (with_reducible exact LaterOf.refl _) | (with_reducible refine LaterOf.alloc ?_ _) | (with_reducible refine LaterOf.drew ?_) | (with_reducible refine LaterOf.drewN ?_ _) | (with_reducible refine LaterOf.later ?_ _) | (with_reducible refine LaterOf.setCell ?_ (by first | exact Nat.le_refl _ | (simp; done) | omega | (simp; omega)) _)))⟩
  have g2 : decide (160 < (r.length : Int)) = false := decide_eq_false (by omega)
  have N := fun W (hW : SinceOf w W) => near_any A c r W (H.out.of hW) hlen
  cases hn : r.all inV
  · rw [hn] at N
    rw [validB_far hn] at HR
    obtain rfl := HR.out
    clear hn
    go_enter Tryz.func32, Tryz.ntmps32
    go_wp2_with fail
    refine (N _ (by (repeat (first | (with_reducible exact SinceOf.refl _) | (with_reducible assumption) | (with_reducible refine SinceOf.alloc ?_ _) | (with_reducible refine SinceOf.drew ?_) | (with_reducible refine SinceOf.drewN ?_ _) | (with_reducible refine SinceOf.later ?_ _) | (with_reducible refine SinceOf.further ?_ _) | (with_reducible refine SinceOf.setCell ?_ (by first | exact Nat.le_refl _ | (simp; done) | omega | (simp; omega)) _))))).calls.mono ?_
    rintro e _ ⟨rfl, x1, rfl⟩
    go_wp2_with fail
    go_returns
    exact ⟨rfl, by (repeat (first | (with_reducible exact LaterOf.refl _) | (with_reducible refine LaterOf.alloc ?_ _) | (with_reducible refine LaterOf.drew ?_) | (with_reducible refine LaterOf.drewN ?_ _) | (with_reducible refine LaterOf.later ?_ _) | (with_reducible refine LaterOf.setCell ?_ (by first | exact Nat.le_refl _ | (simp; done) | omega | (simp; omega)) _)))⟩
  rw [hn] at N
  have HN := Lib.hid (And.intro hn (show ∀ p ∈ r, near 8000 p from fun p hp => inV_near.1 (List.all_eq_true.1 hn p hp)))
  clear hn
  have NX := fun (j : Nat) (hj : j ≤ 100000) W (hW : SinceOf w W) => next_any A c r j W (H.out.of hW) (by omega) (by omega) hj
  go_enter Tryz.func32, Tryz.ntmps32
  go_wp2_with fail
  refine (N _ (by (repeat (first | (with_reducible exact SinceOf.refl _) | (with_reducible assumption) | (with_reducible refine SinceOf.alloc ?_ _) | (with_reducible refine SinceOf.drew ?_) | (with_reducible refine SinceOf.drewN ?_ _) | (with_reducible refine SinceOf.later ?_ _) | (with_reducible refine SinceOf.further ?_ _) | (with_reducible refine SinceOf.setCell ?_ (by first | exact Nat.le_refl _ | (simp; done) | omega | (simp; omega)) _))))).calls.mono ?_
  rintro e _ ⟨rfl, x1, rfl⟩
  clear N g1 g2
  go_wp2_with fail
  go_loopg [3, 23] r.length (fun gas s3 s23 wr => ∃ k t : Nat, k ≤ r.length ∧ r.length - k ≤ gas ∧ t ≤ k ∧ s3 = .int .i64 t ∧ s23 = .int .i64 k ∧ LaterOf w wr ∧ t = turns r k ∧ ∀ i, i < k → leftAt r i = true)
  case atStart => exact ⟨0, 0, by omega, by omega, Nat.le_refl _, rfl, rfl, by (repeat (first | (with_reducible exact LaterOf.refl _) | (with_reducible refine LaterOf.alloc ?_ _) | (with_reducible refine LaterOf.drew ?_) | (with_reducible refine LaterOf.drewN ?_ _) | (with_reducible refine LaterOf.later ?_ _) | (with_reducible refine LaterOf.setCell ?_ (by first | exact Nat.le_refl _ | (simp; done) | omega | (simp; omega)) _))), rfl, fun i hi => by omega⟩
  case round =>
    obtain ⟨k, t, hk, hgas, htk, rfl, rfl, ⟨z, rfl⟩, ht, hall⟩ := hrel
    by_cases hlt : k < r.length
    · have hr0 := H.out.of (w' := z.wd) (by (repeat (first | (with_reducible exact SinceOf.refl _) | (with_reducible assumption) | (with_reducible refine SinceOf.alloc ?_ _) | (with_reducible refine SinceOf.drew ?_) | (with_reducible refine SinceOf.drewN ?_ _) | (with_reducible refine SinceOf.later ?_ _) | (with_reducible refine SinceOf.further ?_ _) | (with_reducible refine SinceOf.setCell ?_ (by first | exact Nat.le_refl _ | (simp; done) | omega | (simp; omega)) _))))
      obtain ⟨g, off, rfl, hr⟩ := hr0.at_ (by omega)
      have hO := hr.there
      have a0 := hr.v0 k hlt
      have a1 := hr.v1 k hlt
      have N1 := fun W (hW : SinceOf z.wd W) => NX k (by omega) W (SinceOf.trans (LaterOf.since ⟨z, rfl⟩) hW)
      have N2 := fun W (hW : SinceOf z.wd W) => show Gives Tryz.prog 52 #[.slice (some ⟨g, off, none⟩) r.length c, .int .i64 ((k : Int) + 1)] W (vv (rv r (k + 1 + 1)).1 (rv r (k + 1 + 1)).2) from NX (k + 1) (by omega) W (SinceOf.trans (LaterOf.since ⟨z, rfl⟩) hW)
      have n1 := HN.out.2 _ (List.getElem_mem hlt)
      have n2 := HN.out.2 _ (rv_mem (r := r) (i := k + 1) (by omega))
      have n3 := HN.out.2 _ (rv_mem (r := r) (i := k + 1 + 1) (by omega))
      have ev : rv r k = r[k] := by rw [rv_lt hlt, at0_eq hlt]
      obtain ⟨e1, e2, e3, e4⟩ := edge_exact n1 n2
      obtain ⟨d1, d2, d3, d4⟩ := edge_exact n2 n3
      have hE : edgeV r k = subP (rv r (k + 1)) r[k] := by unfold edgeV; rw [ev]
      have hF : edgeV r (k + 1) = subP (rv r (k + 1 + 1)) (rv r (k + 1)) := rfl
      rw [← hE] at e1 e2 e3 e4
      rw [← hF] at d1 d2 d3 d4
      have S1 := sub_any (rv r (k + 1)).1 (rv r (k + 1)).2 r[k].1 r[k].2
      have S2 := sub_any (rv r (k + 1 + 1)).1 (rv r (k + 1 + 1)).2 (rv r (k + 1)).1 (rv r (k + 1)).2
      rw [e1, e2] at S1
      rw [d1, d2] at S2
      have CC := cross_any (edgeV r k).1 (edgeV r k).2 (edgeV r (k + 1)).1 (edgeV r (k + 1)).2
      rw [crs_exact e3 e4 d3 d4] at CC
      have U1 := upper_any (edgeV r k).1 (edgeV r k).2
      have U2 := upper_any (edgeV r (k + 1)).1 (edgeV r (k + 1)).2
      have hleft : leftAt r k = decide (0 < crs (edgeV r k) (edgeV r (k + 1))) := rfl
      have htn : turnAt r k = (!upB (edgeV r k) && upB (edgeV r (k + 1))) := rfl
      have hts := turns_succ r k
      rw [htn] at hts
      rw [show ((edgeV r k).1, (edgeV r k).2) = edgeV r k from rfl] at CC U1
      rw [show ((edgeV r (k + 1)).1, (edgeV r (k + 1)).2) = edgeV r (k + 1) from rfl] at CC U2
      clear e1 e2 e3 e4 d1 d2 d3 d4 n1 n2 n3 hE hF htn ev hr hr0
      have HT := Lib.hid (And.intro ht (And.intro hall (And.intro hts hleft)))
      clear ht hall hts hleft
      generalize crs (edgeV r k) (edgeV r (k + 1)) = cr at *
      generalize upB (edgeV r k) = u1 at *
      generalize upB (edgeV r (k + 1)) = u2 at *
      generalize (edgeV r k).1 = ex at *
      generalize (edgeV r k).2 = ey at *
      generalize (edgeV r (k + 1)).1 = fx at *
      generalize (edgeV r (k + 1)).2 = fy at *
      generalize (rv r (k + 1 + 1)).1 = cx at *
      generalize (rv r (k + 1 + 1)).2 = cy at *
      generalize (rv r (k + 1)).1 = bx at *
      generalize (rv r (k + 1)).2 = by_ at *
      generalize r[k].1 = ax at *
      generalize r[k].2 = ay at *
      have hw1 : IntKind.i64.wrap ((k : Int) + 1) = (k : Int) + 1 := IntWalk.i64_in _ (by omega)
      go_upto_region 7 with fail
      go_cut [6, 7] (fun s6 s7 wx => ∃ b6 b7 : Nat, s6 = .pointer (some ⟨b6, 0, none⟩) ∧ s7 = .pointer (some ⟨b7, 0, none⟩) ∧ VarV wx b6 (ex, ey) ∧ VarV wx b7 (fx, fy) ∧ LaterOf z.wd wx)
      case first =>
        have mk : True := trivial
        go_region_held3 (fun w' => w'.cell? ⟨z.wd.heap.size, 0, none⟩ = some (.int .i64 ax) ∧ w'.cell? ⟨z.wd.heap.size, 1, none⟩ = some (.int .i64 ay)) ((simp [go_sem, *]))
          (first
            | (clear mk; go_at_call 52; (with_reducible refine (N1 _ (by (repeat (first | (with_reducible exact SinceOf.refl _) | (with_reducible assumption) | (with_reducible refine SinceOf.alloc ?_ _) | (with_reducible refine SinceOf.drew ?_) | (with_reducible refine SinceOf.drewN ?_ _) | (with_reducible refine SinceOf.later ?_ _) | (with_reducible refine SinceOf.further ?_ _) | (with_reducible refine SinceOf.setCell ?_ (by first | exact Nat.le_refl _ | (simp; done) | omega | (simp; omega)) _))))).calls.mono ?_); rintro e _ ⟨rfl, y1, rfl⟩; have sz_y1 := y1.size; (try simp only [World.size_alloc, World.size_setCell, World.size_drew] at sz_y1); (try (have na_y1_0 : ¬ z.wd.heap.size + 1 = y1.wd.heap.size := by omega)); (try (have nb_y1_0 : ¬ y1.wd.heap.size = z.wd.heap.size + 1 := by omega)); (try (have na_y1_1 : ¬ z.wd.heap.size + 1 + 1 = y1.wd.heap.size := by omega)); (try (have nb_y1_1 : ¬ y1.wd.heap.size = z.wd.heap.size + 1 + 1 := by omega)))
            | (go_at_call 53; (with_reducible refine (S1 _).calls.mono ?_); rintro e _ ⟨rfl, y2, rfl⟩; have sz_y2 := y2.size; (try simp only [World.size_alloc, World.size_setCell, World.size_drew] at sz_y2); (try (have na_y2_0 : ¬ z.wd.heap.size + 1 = y2.wd.heap.size := by omega)); (try (have nb_y2_0 : ¬ y2.wd.heap.size = z.wd.heap.size + 1 := by omega)); (try (have na_y2_1 : ¬ z.wd.heap.size + 1 + 1 = y2.wd.heap.size := by omega)); (try (have nb_y2_1 : ¬ y2.wd.heap.size = z.wd.heap.size + 1 + 1 := by omega)); (try (have na_y2_2 : ¬ y1.wd.heap.size = y2.wd.heap.size := by omega)); (try (have nb_y2_2 : ¬ y2.wd.heap.size = y1.wd.heap.size := by omega)); (try (have na_y2_3 : ¬ y1.wd.heap.size + 1 = y2.wd.heap.size := by omega)); (try (have nb_y2_3 : ¬ y2.wd.heap.size = y1.wd.heap.size + 1 := by omega)))
            | (go_at_call 52; (with_reducible refine (N2 _ (by (repeat (first | (with_reducible exact SinceOf.refl _) | (with_reducible assumption) | (with_reducible refine SinceOf.alloc ?_ _) | (with_reducible refine SinceOf.drew ?_) | (with_reducible refine SinceOf.drewN ?_ _) | (with_reducible refine SinceOf.later ?_ _) | (with_reducible refine SinceOf.further ?_ _) | (with_reducible refine SinceOf.setCell ?_ (by first | exact Nat.le_refl _ | (simp; done) | omega | (simp; omega)) _))))).calls.mono ?_); rintro e _ ⟨rfl, y3, rfl⟩; have sz_y3 := y3.size; (try simp only [World.size_alloc, World.size_setCell, World.size_drew] at sz_y3); (try (have na_y3_0 : ¬ z.wd.heap.size + 1 = y3.wd.heap.size := by omega)); (try (have nb_y3_0 : ¬ y3.wd.heap.size = z.wd.heap.size + 1 := by omega)); (try (have na_y3_1 : ¬ z.wd.heap.size + 1 + 1 = y3.wd.heap.size := by omega)); (try (have nb_y3_1 : ¬ y3.wd.heap.size = z.wd.heap.size + 1 + 1 := by omega)); (try (have na_y3_2 : ¬ y1.wd.heap.size = y3.wd.heap.size := by omega)); (try (have nb_y3_2 : ¬ y3.wd.heap.size = y1.wd.heap.size := by omega)); (try (have na_y3_3 : ¬ y1.wd.heap.size + 1 = y3.wd.heap.size := by omega)); (try (have nb_y3_3 : ¬ y3.wd.heap.size = y1.wd.heap.size + 1 := by omega)); (try (have na_y3_4 : ¬ y2.wd.heap.size = y3.wd.heap.size := by omega)); (try (have nb_y3_4 : ¬ y3.wd.heap.size = y2.wd.heap.size := by omega)); (try (have na_y3_5 : ¬ y2.wd.heap.size + 1 = y3.wd.heap.size := by omega)); (try (have nb_y3_5 : ¬ y3.wd.heap.size = y2.wd.heap.size + 1 := by omega)))
            | (go_at_call 52; (with_reducible refine (N1 _ (by (repeat (first | (with_reducible exact SinceOf.refl _) | (with_reducible assumption) | (with_reducible refine SinceOf.alloc ?_ _) | (with_reducible refine SinceOf.drew ?_) | (with_reducible refine SinceOf.drewN ?_ _) | (with_reducible refine SinceOf.later ?_ _) | (with_reducible refine SinceOf.further ?_ _) | (with_reducible refine SinceOf.setCell ?_ (by first | exact Nat.le_refl _ | (simp; done) | omega | (simp; omega)) _))))).calls.mono ?_); rintro e _ ⟨rfl, y4, rfl⟩; have sz_y4 := y4.size; (try simp only [World.size_alloc, World.size_setCell, World.size_drew] at sz_y4); (try (have na_y4_0 : ¬ z.wd.heap.size + 1 = y4.wd.heap.size := by omega)); (try (have nb_y4_0 : ¬ y4.wd.heap.size = z.wd.heap.size + 1 := by omega)); (try (have na_y4_1 : ¬ z.wd.heap.size + 1 + 1 = y4.wd.heap.size := by omega)); (try (have nb_y4_1 : ¬ y4.wd.heap.size = z.wd.heap.size + 1 + 1 := by omega)); (try (have na_y4_2 : ¬ y1.wd.heap.size = y4.wd.heap.size := by omega)); (try (have nb_y4_2 : ¬ y4.wd.heap.size = y1.wd.heap.size := by omega)); (try (have na_y4_3 : ¬ y1.wd.heap.size + 1 = y4.wd.heap.size := by omega)); (try (have nb_y4_3 : ¬ y4.wd.heap.size = y1.wd.heap.size + 1 := by omega)); (try (have na_y4_4 : ¬ y2.wd.heap.size = y4.wd.heap.size := by omega)); (try (have nb_y4_4 : ¬ y4.wd.heap.size = y2.wd.heap.size := by omega)); (try (have na_y4_5 : ¬ y2.wd.heap.size + 1 = y4.wd.heap.size := by omega)); (try (have nb_y4_5 : ¬ y4.wd.heap.size = y2.wd.heap.size + 1 := by omega)); (try (have na_y4_6 : ¬ y3.wd.heap.size = y4.wd.heap.size := by omega)); (try (have nb_y4_6 : ¬ y4.wd.heap.size = y3.wd.heap.size := by omega)); (try (have na_y4_7 : ¬ y3.wd.heap.size + 1 = y4.wd.heap.size := by omega)); (try (have nb_y4_7 : ¬ y4.wd.heap.size = y3.wd.heap.size + 1 := by omega)))
            | (go_at_call 53; (with_reducible refine (S2 _).calls.mono ?_); rintro e _ ⟨rfl, y5, rfl⟩; have sz_y5 := y5.size; (try simp only [World.size_alloc, World.size_setCell, World.size_drew] at sz_y5); (try (have na_y5_0 : ¬ z.wd.heap.size + 1 = y5.wd.heap.size := by omega)); (try (have nb_y5_0 : ¬ y5.wd.heap.size = z.wd.heap.size + 1 := by omega)); (try (have na_y5_1 : ¬ z.wd.heap.size + 1 + 1 = y5.wd.heap.size := by omega)); (try (have nb_y5_1 : ¬ y5.wd.heap.size = z.wd.heap.size + 1 + 1 := by omega)); (try (have na_y5_2 : ¬ y1.wd.heap.size = y5.wd.heap.size := by omega)); (try (have nb_y5_2 : ¬ y5.wd.heap.size = y1.wd.heap.size := by omega)); (try (have na_y5_3 : ¬ y1.wd.heap.size + 1 = y5.wd.heap.size := by omega)); (try (have nb_y5_3 : ¬ y5.wd.heap.size = y1.wd.heap.size + 1 := by omega)); (try (have na_y5_4 : ¬ y2.wd.heap.size = y5.wd.heap.size := by omega)); (try (have nb_y5_4 : ¬ y5.wd.heap.size = y2.wd.heap.size := by omega)); (try (have na_y5_5 : ¬ y2.wd.heap.size + 1 = y5.wd.heap.size := by omega)); (try (have nb_y5_5 : ¬ y5.wd.heap.size = y2.wd.heap.size + 1 := by omega)); (try (have na_y5_6 : ¬ y3.wd.heap.size = y5.wd.heap.size := by omega)); (try (have nb_y5_6 : ¬ y5.wd.heap.size = y3.wd.heap.size := by omega)); (try (have na_y5_7 : ¬ y3.wd.heap.size + 1 = y5.wd.heap.size := by omega)); (try (have nb_y5_7 : ¬ y5.wd.heap.size = y3.wd.heap.size + 1 := by omega)); (try (have na_y5_8 : ¬ y4.wd.heap.size = y5.wd.heap.size := by omega)); (try (have nb_y5_8 : ¬ y5.wd.heap.size = y4.wd.heap.size := by omega)); (try (have na_y5_9 : ¬ y4.wd.heap.size + 1 = y5.wd.heap.size := by omega)); (try (have nb_y5_9 : ¬ y5.wd.heap.size = y4.wd.heap.size + 1 := by omega))))
        all_goals
          go_wp2_with fail
          go_meet
          refine ⟨_, _, rfl, rfl, ?_, ?_, by (repeat (first | (with_reducible exact LaterOf.refl _) | (with_reducible refine LaterOf.alloc ?_ _) | (with_reducible refine LaterOf.drew ?_) | (with_reducible refine LaterOf.drewN ?_ _) | (with_reducible refine LaterOf.later ?_ _) | (with_reducible refine LaterOf.setCell ?_ (by first | exact Nat.le_refl _ | (simp; done) | omega | (simp; omega)) _)))⟩ <;> exact ⟨by simp [go_sem, *], by simp [go_sem, *], by simp [go_sem, *], by simp [go_sem, *], by (simp only [World.size_alloc, World.size_setCell, World.size_drew]; omega)⟩
      case rest =>
        obtain ⟨b6, b7, rfl, rfl, v6, v7, ⟨z7, rfl⟩⟩ := hcut
        have c0 := v6.c0
        have c1 := v6.c1
        have d0 := v7.c0
        have d1 := v7.c1
        have o6 : Nonempty (Old z7.wd b6) := ⟨⟨v6.lt⟩⟩
        have o7 : Nonempty (Old z7.wd b7) := ⟨⟨v7.lt⟩⟩
        simp only at c0 c1 d0 d1
        clear v6 v7 N1 N2 S1 S2 hw1
        by_cases hcr : 0 < cr
        · have g3 : decide (cr ≤ 0) = false := decide_eq_false (by omega)
          have HL := Lib.hid (show ∀ i, i < k + 1 → leftAt r i = true from fun i hi => by
            by_cases q : i = k
            · rw [q, HT.out.2.2.2, decide_eq_true hcr]
            · exact HT.out.2.1 i (by omega))
          clear hcr
          cases u1
          · cases u2
            · have HTS := Lib.hid (show t = turns r (k + 1) by rw [HT.out.2.2.1, HT.out.1]; simp)
              clear HT
              go_wp2_with fail
              refine (CC _).calls.mono ?_
              rintro e _ ⟨rfl, y1, rfl⟩
              go_wp2_with fail
              refine (U1 _).calls.mono ?_
              rintro e _ ⟨rfl, y2, rfl⟩
              go_wp2_with fail
              refine (U2 _).calls.mono ?_
              rintro e _ ⟨rfl, y3, rfl⟩
              go_wp2_with fail
              go_roundg (r.length - (k + 1))
              case measure => omega
              case rel => exact ⟨k + 1, t, hlt, Nat.le_refl _, by omega, rfl, by go_num, by (repeat (first | (with_reducible exact LaterOf.refl _) | (with_reducible refine LaterOf.alloc ?_ _) | (with_reducible refine LaterOf.drew ?_) | (with_reducible refine LaterOf.drewN ?_ _) | (with_reducible refine LaterOf.later ?_ _) | (with_reducible refine LaterOf.setCell ?_ (by first | exact Nat.le_refl _ | (simp; done) | omega | (simp; omega)) _))), HTS.out, HL.out⟩
            · have HTS := Lib.hid (show t + 1 = turns r (k + 1) by rw [HT.out.2.2.1, HT.out.1]; simp)
              clear HT
              go_wp2_with fail
              refine (CC _).calls.mono ?_
              rintro e _ ⟨rfl, y1, rfl⟩
              go_wp2_with fail
              refine (U1 _).calls.mono ?_
              rintro e _ ⟨rfl, y2, rfl⟩
              go_wp2_with fail
              refine (U2 _).calls.mono ?_
              rintro e _ ⟨rfl, y3, rfl⟩
              go_wp2_with fail
              go_roundg (r.length - (k + 1))
              case measure => omega
              case rel => exact ⟨k + 1, t + 1, hlt, Nat.le_refl _, by omega, by go_num, by go_num, by (repeat (first | (with_reducible exact LaterOf.refl _) | (with_reducible refine LaterOf.alloc ?_ _) | (with_reducible refine LaterOf.drew ?_) | (with_reducible refine LaterOf.drewN ?_ _) | (with_reducible refine LaterOf.later ?_ _) | (with_reducible refine LaterOf.setCell ?_ (by first | exact Nat.le_refl _ | (simp; done) | omega | (simp; omega)) _))), HTS.out, HL.out⟩
          · have HTS := Lib.hid (show t = turns r (k + 1) by rw [HT.out.2.2.1, HT.out.1]; simp)
            clear HT
            go_wp2_with fail
            refine (CC _).calls.mono ?_
            rintro e _ ⟨rfl, y1, rfl⟩
            go_wp2_with fail
            refine (U1 _).calls.mono ?_
            rintro e _ ⟨rfl, y2, rfl⟩
            go_wp2_with fail
            go_roundg (r.length - (k + 1))
            case measure => omega
            case rel => exact ⟨k + 1, t, hlt, Nat.le_refl _, by omega, rfl, by go_num, by (repeat (first | (with_reducible exact LaterOf.refl _) | (with_reducible refine LaterOf.alloc ?_ _) | (with_reducible refine LaterOf.drew ?_) | (with_reducible refine LaterOf.drewN ?_ _) | (with_reducible refine LaterOf.later ?_ _) | (with_reducible refine LaterOf.setCell ?_ (by first | exact Nat.le_refl _ | (simp; done) | omega | (simp; omega)) _))), HTS.out, HL.out⟩
        · have g3 : decide (cr ≤ 0) = true := decide_eq_true (by omega)
          rw [validB_right hlt (by rw [HT.out.2.2.2, decide_eq_false hcr])] at HR
          obtain rfl := HR.out
          clear hcr
          go_wp2_with fail
          refine (CC _).calls.mono ?_
          rintro e _ ⟨rfl, y1, rfl⟩
          go_wp2_with fail
          go_returns
          exact ⟨rfl, by (repeat (first | (with_reducible exact LaterOf.refl _) | (with_reducible refine LaterOf.alloc ?_ _) | (with_reducible refine LaterOf.drew ?_) | (with_reducible refine LaterOf.drewN ?_ _) | (with_reducible refine LaterOf.later ?_ _) | (with_reducible refine LaterOf.setCell ?_ (by first | exact Nat.le_refl _ | (simp; done) | omega | (simp; omega)) _)))⟩
    · obtain rfl : k = r.length := by omega
      have hve := validB_end (r := r) (by omega) (by omega) HN.out.1 hall
      rw [hve, ← ht] at HR
      clear hall hve ht
      by_cases h1 : t = 1
      · have g3 : ((t : Int) == 1) = true := by simp; omega
        rw [decide_eq_true h1] at HR
        obtain rfl := HR.out
        clear h1
        go_wp2_with fail
        go_returns
        exact ⟨rfl, by (repeat (first | (with_reducible exact LaterOf.refl _) | (with_reducible refine LaterOf.alloc ?_ _) | (with_reducible refine LaterOf.drew ?_) | (with_reducible refine LaterOf.drewN ?_ _) | (with_reducible refine LaterOf.later ?_ _) | (with_reducible refine LaterOf.setCell ?_ (by first | exact Nat.le_refl _ | (simp; done) | omega | (simp; omega)) _)))⟩
      · have g3 : ((t : Int) == 1) = false := by simp; omega
        rw [decide_eq_false h1] at HR
        obtain rfl := HR.out
        clear h1
        go_wp2_with fail
        go_returns
        exact ⟨rfl, by (repeat (first | (with_reducible exact LaterOf.refl _) | (with_reducible refine LaterOf.alloc ?_ _) | (with_reducible refine LaterOf.drew ?_) | (with_reducible refine LaterOf.drewN ?_ _) | (with_reducible refine LaterOf.later ?_ _) | (with_reducible refine LaterOf.setCell ?_ (by first | exact Nat.le_refl _ | (simp; done) | omega | (simp; omega)) _)))⟩
end Go.Proofs.YtpbgimdbhgahkaaGreat
