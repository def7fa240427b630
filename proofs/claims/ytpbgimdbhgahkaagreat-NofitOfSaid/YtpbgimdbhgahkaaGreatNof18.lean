/- Layer 16: Begin, Move and Negate of the reference of layers 8 and 15. -/
import Derived.Test.YtpbgimdbhgahkaaGreatNof19
import Derived.Test.YtpbgimdbhgahkaaGreatMinkR3
namespace Go.Proofs.YtpbgimdbhgahkaaGreat
open Go.RowKit Go.Sort
set_option linter.unusedVariables false
set_option linter.unusedSimpArgs false
attribute [local go_sem ↓] Go.wp_at_zero Go.wp_at_succ

theorem lessB_lexy (p q : Pt) : lessB p.1 p.2 q.1 q.2 = true ↔ lexy p q := by
  unfold lessB lexy
  simp only [Bool.or_eq_true, Bool.and_eq_true, decide_eq_true_eq, beq_iff_eq]
set_option maxRecDepth 100000 in
set_option maxHeartbeats 8000000 in
theorem refBegin_any (A : Option Addr) (c : Nat) (r : List (Int × Int)) (w : World) (h : IsVecs w A c r) (hn : 0 < r.length) (hlen : r.length ≤ 100000) (hc : r.length ≤ c) :
    Calls Tryz.prog 38 #[.slice A r.length c] w fun e w' => ∃ A' c' k, e = .returned (.slice A' r.length c') ∧ k < r.length ∧ (∀ j, j < r.length → ¬ lexy (at0 r j) (at0 r k)) ∧ OwnVecs w.heap.size w' A' c' (rotL k r) ∧ SinceOf w w' := by
  have H := Lib.hid h
  obtain ⟨g, off, rfl, hr⟩ := h.at_ hn
  have hO := hr.there
  have HR := Lib.hid hr
  obtain ⟨i0, hi, hz0, hz1, hz2⟩ := info_parts infoVec
  have HI := Lib.hid (And.intro hi (And.intro hz0 (And.intro hz1 hz2)))
  clear h hr hi hz0 hz1 hz2
  go_enter Tryz.func38, Tryz.ntmps38
  go_wp2_with fail
  go_loopg [3, 4] r.length (fun gas s3 s4 wr => ∃ i b : Nat, i ≤ r.length ∧ r.length - i ≤ gas ∧ s4 = .int .i64 i ∧ s3 = .int .i64 b ∧ b < r.length ∧ (∀ j, j < i → ¬ lexy (at0 r j) (at0 r b)) ∧ LaterOf w wr)
  case atStart => exact ⟨0, 0, by omega, by omega, rfl, rfl, hn, fun j hj => by omega, by (repeat (first | (with_reducible exact LaterOf.refl _) | (with_reducible refine LaterOf.alloc ?_ _) | (with_reducible refine LaterOf.drew ?_) | (with_reducible refine LaterOf.drewN ?_ _) | (with_reducible refine LaterOf.later ?_ _) | (with_reducible refine LaterOf.setCell ?_ (by first | exact Nat.le_refl _ | (simp; done) | omega | (simp; omega)) _)))⟩
  case round =>
    obtain ⟨i, b, hi, hgas, rfl, rfl, hb, hall, ⟨z, rfl⟩⟩ := hrel
    by_cases hlt : i < r.length
    · have a0 := HR.out.v0 i hlt
      have a1 := HR.out.v1 i hlt
      have b0 := HR.out.v0 b hb
      have b1 := HR.out.v1 b hb
      have T := refLess_any r[i].1 r[i].2 r[b].1 r[b].2
      have hv := lessB_lexy r[i] r[b]
      have ei := at0_eq hlt
      have eb := at0_eq hb
      have HA := Lib.hid hall
      generalize r[i] = pa at *
      generalize r[b] = pb at *
      have HE := Lib.hid (And.intro ei eb)
      clear ei eb
      obtain ⟨xa, ya⟩ := pa
      obtain ⟨xb, yb⟩ := pb
      simp only at a0 a1 b0 b1 T hv
      clear hall
      by_cases hl : lexy (xa, ya) (xb, yb)
      · rw [hv.2 hl] at T
        have HLx := Lib.hid hl
        clear hv hl
        go_wp2_with fail
        refine region_later (by kernel_rfl) (by kernel_rfl) ?_
        repeat (go_big_quiet_step ((with_reducible refine Gives.later (T _))))
        refine wpQuiet_nil ?_
        rintro _ ⟨z4, rfl⟩
        go_wp2_with fail
        go_roundg (r.length - (i + 1))
        case measure => omega
        case rel =>
          refine ⟨i + 1, i, hlt, Nat.le_refl _, by go_num, rfl, hlt, fun j hj => ?_, by (repeat (first | (with_reducible exact LaterOf.refl _) | (with_reducible refine LaterOf.alloc ?_ _) | (with_reducible refine LaterOf.drew ?_) | (with_reducible refine LaterOf.drewN ?_ _) | (with_reducible refine LaterOf.later ?_ _) | (with_reducible refine LaterOf.setCell ?_ (by first | exact Nat.le_refl _ | (simp; done) | omega | (simp; omega)) _)))⟩
          by_cases e : j = i
          · rw [e]; exact fun h => h.asymm h
          · exact fun h => HA.out j (by omega) (lexy_trans h (by rw [HE.out.1, HE.out.2]; exact HLx.out))
      · rw [Bool.eq_false_iff.2 (fun h => hl (hv.1 h))] at T
        have HLx := Lib.hid hl
        clear hv hl
        go_wp2_with fail
        refine region_later (by kernel_rfl) (by kernel_rfl) ?_
        repeat (go_big_quiet_step ((with_reducible refine Gives.later (T _))))
        refine wpQuiet_nil ?_
        rintro _ ⟨z4, rfl⟩
        go_wp2_with fail
        go_roundg (r.length - (i + 1))
        case measure => omega
        case rel =>
          refine ⟨i + 1, b, hlt, Nat.le_refl _, by go_num, rfl, hb, fun j hj => ?_, by (repeat (first | (with_reducible exact LaterOf.refl _) | (with_reducible refine LaterOf.alloc ?_ _) | (with_reducible refine LaterOf.drew ?_) | (with_reducible refine LaterOf.drewN ?_ _) | (with_reducible refine LaterOf.later ?_ _) | (with_reducible refine LaterOf.setCell ?_ (by first | exact Nat.le_refl _ | (simp; done) | omega | (simp; omega)) _)))⟩
          by_cases e : j = i
          · rw [e, HE.out.1, HE.out.2]; exact HLx.out
          · exact HA.out j (by omega)
    · have hil : i = r.length := by omega
      subst hil
      have HA := Lib.hid hall
      clear hall
      have hcb : ¬ c = b := by omega
      have hd : IsVecs w (some ⟨g, off + b * 2, none⟩) (c - b) (r.drop b) := by
        have := H.out.drop hc b
        rw [if_neg hcb] at this
        simp only [Option.map_some, add_none] at this
        exact this
      have ht : IsVecs w (some ⟨g, off, none⟩) c (r.take b) := H.out.take b
      have HD := Lib.hid (And.intro hd ht)
      have z1 : (0 : Int) ≤ (b : Int) := by omega
      have z2 : (b : Int) ≤ (r.length : Int) := by omega
      have z3 : (b : Int) ≤ (c : Int) := by omega
      have z4 : (r.length : Int) ≤ (c : Int) := by omega
      have hbz := z.size
      have l1 : (r.drop b).length = r.length - b := List.length_drop
      have l2 : (r.take b).length = b := by rw [List.length_take]; omega
      have hrot : rotL b r = r.drop b ++ r.take b := rfl
      obtain ⟨L1, hL1⟩ : ∃ L, L = r.drop b := ⟨_, rfl⟩
      obtain ⟨L2, hL2⟩ : ∃ L, L = r.take b := ⟨_, rfl⟩
      rw [← hL1] at l1 hrot HD
      rw [← hL2] at l2 hrot HD
      have HT := Lib.hid (And.intro l1 (And.intro l2 hrot))
      clear hd ht hL1 hL2 hrot l1 l2
      have l1 := HT.out.1
      have l2 := HT.out.2.1
      have hLz : LaterOf w z.wd := ⟨z, rfl⟩
      have HLz := Lib.hid hLz
      clear hLz
      obtain ⟨hi, hz0, hz1, hz2⟩ := HI.out
      go_wp2_with fail
      go_region_law ((first
        | (refine step_append_row2 (by rfl) (.tmp 21) (.tmp 24) 40 40 (by rfl) encV_len (by omega) encV_one i0 _ 16 Tryz.underlying40 Tryz.underlying40 hi hz0 hz1 hz2 rfl (l := []) (c := 0) (base := w.heap.size) (by rfl) (by first | exact owns_empty _ _ hbz | exact (owns_empty _ _ hbz).alloc _) (m := L1) (B := some ⟨g, off + b * 2, none⟩) (d := c - b) (by rw [l1]; simp [Act.eval, hcb]) (HD.out.1.of (by (repeat (first | (with_reducible exact SinceOf.refl _) | (with_reducible assumption) | (with_reducible refine SinceOf.alloc ?_ _) | (with_reducible refine SinceOf.drew ?_) | (with_reducible refine SinceOf.drewN ?_ _) | (with_reducible refine SinceOf.later ?_ _) | (with_reducible refine SinceOf.further ?_ _) | (with_reducible refine SinceOf.setCell ?_ (by first | exact Nat.le_refl _ | (simp; done) | omega | (simp; omega)) _))))) (by unfold maxLen; rw [l1]; simp; omega) (by rw [l1]; simp; omega) (by simp; omega) ?_
           intro A5 c5 w5 hown5 hgrow5 hb5
           have hs5 : SinceOf z.wd w5 := SinceOf.grown (by (repeat (first | (with_reducible exact SinceOf.refl _) | (with_reducible assumption) | (with_reducible refine SinceOf.alloc ?_ _) | (with_reducible refine SinceOf.drew ?_) | (with_reducible refine SinceOf.drewN ?_ _) | (with_reducible refine SinceOf.later ?_ _) | (with_reducible refine SinceOf.further ?_ _) | (with_reducible refine SinceOf.setCell ?_ (by first | exact Nat.le_refl _ | (simp; done) | omega | (simp; omega)) _)))) hgrow5 (by intro q hq; simp [blockOf] at hq; omega))
        | (refine step_append_row2 (by rfl) (.tmp 25) (.tmp 28) 40 40 (by rfl) encV_len (by omega) encV_one i0 _ 16 Tryz.underlying40 Tryz.underlying40 hi hz0 hz1 hz2 rfl (l := [] ++ L1) (A := A5) (c := c5) (base := w.heap.size) (by simp [Act.eval, l1]) (by first | exact hown5.alloc _ | exact hown5) (m := L2) (B := some ⟨g, off, none⟩) (d := c) (by rw [l2]; simp [Act.eval]) (HD.out.2.of (SinceOf.trans HLz.out.since (by (repeat (first | (with_reducible exact SinceOf.refl _) | (with_reducible assumption) | (with_reducible refine SinceOf.alloc ?_ _) | (with_reducible refine SinceOf.drew ?_) | (with_reducible refine SinceOf.drewN ?_ _) | (with_reducible refine SinceOf.later ?_ _) | (with_reducible refine SinceOf.further ?_ _) | (with_reducible refine SinceOf.setCell ?_ (by first | exact Nat.le_refl _ | (simp; done) | omega | (simp; omega)) _)))))) (by unfold maxLen; rw [List.nil_append, l1, l2]; omega) (by rw [List.nil_append, l1, l2]; omega) (by have := hs5.size; simp at this ⊢; omega) ?_
           intro A6 c6 w6 hown6 hgrow6 hb6
           have hs6 : SinceOf z.wd w6 := SinceOf.grown (by (repeat (first | (with_reducible exact SinceOf.refl _) | (with_reducible assumption) | (with_reducible refine SinceOf.alloc ?_ _) | (with_reducible refine SinceOf.drew ?_) | (with_reducible refine SinceOf.drewN ?_ _) | (with_reducible refine SinceOf.later ?_ _) | (with_reducible refine SinceOf.further ?_ _) | (with_reducible refine SinceOf.setCell ?_ (by first | exact Nat.le_refl _ | (simp; done) | omega | (simp; omega)) _)))) hgrow6 (by intro q hq; rw [hq] at hb5; simp [blockOf] at hb5; omega))))
      all_goals go_wp2_with fail
      all_goals go_returns
      all_goals
        refine ⟨A6, c6, b, ?_, hb, HA.out, ?_, SinceOf.trans HLz.out.since hs6⟩
        · have e0 : r.length - b + b = r.length := by omega
          first | rfl | (rw [← e0, l1, l2]; rfl) | (simp [Act.put, e0]; done)
        · rw [HT.out.2.2]; simpa using hown6
theorem checkedV_ok {u : List Pt} (h1 : ∀ p ∈ u, near 8000 p) (h2 : u.length ≤ 160) : checkedV u = (u, 0) := by
  unfold checkedV
  rw [if_pos (List.all_eq_true.2 fun p hp => inV_near.2 (h1 p hp)), if_neg (by omega)]
theorem checkedV_no {u : List Pt} (h1 : ¬ u.all inV = true) : checkedV u = ([], 2) := by
  unfold checkedV
  rw [if_neg h1]
set_option maxRecDepth 100000 in
set_option maxHeartbeats 16000000 in
theorem refMove15_any (A : Option Addr) (c : Nat) (r : List (Int × Int)) (vx vy : Int) (w : World) (h : IsVecs w A c r) (hn : r.length < 4611686018427387904) :
    Calls Tryz.prog 23 #[.slice A r.length c, vv vx vy] w fun e w' => ∃ A' c' out, e = .returned (.tuple #[.slice A' out.1.length c', .int .i64 out.2]) ∧ MoveV r (vx, vy) out ∧ NewRow w w' A' c' out.1 := by
  have V := fun W (hW : SinceOf w W) => refValid_any A c r W (h.of hW) hn
  have WI := refWithin_any vx vy 16000
  have H := Lib.hid h
  clear h
  unfold NewRow
  cases hv : validB r
  · rw [hv] at V
    have HV := Lib.hid hv
    clear hv
    go_enter Tryz.func23, Tryz.ntmps23
    go_wp2_with fail
    refine (V _ (by (repeat (first | (with_reducible exact SinceOf.refl _) | (with_reducible assumption) | (with_reducible refine SinceOf.alloc ?_ _) | (with_reducible refine SinceOf.drew ?_) | (with_reducible refine SinceOf.drewN ?_ _) | (with_reducible refine SinceOf.later ?_ _) | (with_reducible refine SinceOf.further ?_ _) | (with_reducible refine SinceOf.setCell ?_ (by first | exact Nat.le_refl _ | (simp; done) | omega | (simp; omega)) _))))).calls.mono ?_
    rintro e _ ⟨rfl, x1, rfl⟩
    go_wp2_with fail
    go_returns
    exact ⟨none, 0, ([], 11), rfl, by unfold MoveV; rw [HV.out]; rfl, IsRow.nil _ _ _, Nat.le_refl _, (fun b hb => by cases hb), by (repeat (first | (with_reducible exact SinceOf.refl _) | (with_reducible assumption) | (with_reducible refine SinceOf.alloc ?_ _) | (with_reducible refine SinceOf.drew ?_) | (with_reducible refine SinceOf.drewN ?_ _) | (with_reducible refine SinceOf.later ?_ _) | (with_reducible refine SinceOf.further ?_ _) | (with_reducible refine SinceOf.setCell ?_ (by first | exact Nat.le_refl _ | (simp; done) | omega | (simp; omega)) _)))⟩
  rw [hv] at V
  have hC := validB_iff.1 hv
  have r3 := hC.1
  have r160 := hC.2.1
  cases hw : withinB vx vy 16000
  · rw [hw] at WI
    have HV := Lib.hid (And.intro hv hw)
    clear hv hw hC
    go_enter Tryz.func23, Tryz.ntmps23
    go_wp2_with fail
    refine (V _ (by (repeat (first | (with_reducible exact SinceOf.refl _) | (with_reducible assumption) | (with_reducible refine SinceOf.alloc ?_ _) | (with_reducible refine SinceOf.drew ?_) | (with_reducible refine SinceOf.drewN ?_ _) | (with_reducible refine SinceOf.later ?_ _) | (with_reducible refine SinceOf.further ?_ _) | (with_reducible refine SinceOf.setCell ?_ (by first | exact Nat.le_refl _ | (simp; done) | omega | (simp; omega)) _))))).calls.mono ?_
    rintro e _ ⟨rfl, x1, rfl⟩
    go_wp2_with fail
    refine (WI _).calls.mono ?_
    rintro e _ ⟨rfl, x2, rfl⟩
    go_wp2_with fail
    go_returns
    exact ⟨none, 0, ([], 2), rfl, by unfold MoveV; rw [if_pos HV.out.1, if_neg (by rw [HV.out.2]; simp)], IsRow.nil _ _ _, Nat.le_refl _, (fun b hb => by cases hb), by (repeat (first | (with_reducible exact SinceOf.refl _) | (with_reducible assumption) | (with_reducible refine SinceOf.alloc ?_ _) | (with_reducible refine SinceOf.drew ?_) | (with_reducible refine SinceOf.drewN ?_ _) | (with_reducible refine SinceOf.later ?_ _) | (with_reducible refine SinceOf.further ?_ _) | (with_reducible refine SinceOf.setCell ?_ (by first | exact Nat.le_refl _ | (simp; done) | omega | (simp; omega)) _)))⟩
  rw [hw] at WI
  have nv : near 16000 (vx, vy) := (near_within (by omega)).1 hw
  have HC := Lib.hid (And.intro hv (And.intro hw (And.intro nv hC)))
  obtain ⟨i0, hi, hz0, hz1, hz2⟩ := info_parts infoVec
  have HI := Lib.hid (And.intro hi (And.intro hz0 (And.intro hz1 hz2)))
  obtain ⟨M, hM⟩ : ∃ M, M = r.map (fun p => addP p (vx, vy)) := ⟨_, rfl⟩
  have hlM : M.length = r.length := by rw [hM, List.length_map]
  have HM := Lib.hid (And.intro hM hlM)
  clear hi hz0 hz1 hz2 hC hv hn hw nv hM hlM
  go_enter Tryz.func23, Tryz.ntmps23
  go_wp2_with fail
  refine (V _ (by (repeat (first | (with_reducible exact SinceOf.refl _) | (with_reducible assumption) | (with_reducible refine SinceOf.alloc ?_ _) | (with_reducible refine SinceOf.drew ?_) | (with_reducible refine SinceOf.drewN ?_ _) | (with_reducible refine SinceOf.later ?_ _) | (with_reducible refine SinceOf.further ?_ _) | (with_reducible refine SinceOf.setCell ?_ (by first | exact Nat.le_refl _ | (simp; done) | omega | (simp; omega)) _))))).calls.mono ?_
  rintro e _ ⟨rfl, x1, rfl⟩
  clear V
  go_wp2_with fail
  refine (WI _).calls.mono ?_
  rintro e _ ⟨rfl, x2, rfl⟩
  clear WI
  have VB : VarV x2.wd w.heap.size (vx, vy) := (VarV.new w vx vy 24).of (by (repeat (first | (with_reducible exact SinceOf.refl _) | (with_reducible assumption) | (with_reducible refine SinceOf.alloc ?_ _) | (with_reducible refine SinceOf.drew ?_) | (with_reducible refine SinceOf.drewN ?_ _) | (with_reducible refine SinceOf.later ?_ _) | (with_reducible refine SinceOf.further ?_ _) | (with_reducible refine SinceOf.setCell ?_ (by first | exact Nat.le_refl _ | (simp; done) | omega | (simp; omega)) _))))
  have HVB := Lib.hid VB
  have hltb := VB.lt
  clear VB
  obtain ⟨v0, hv0⟩ : SinceOf w x2.wd := by (repeat (first | (with_reducible exact SinceOf.refl _) | (with_reducible assumption) | (with_reducible refine SinceOf.alloc ?_ _) | (with_reducible refine SinceOf.drew ?_) | (with_reducible refine SinceOf.drewN ?_ _) | (with_reducible refine SinceOf.later ?_ _) | (with_reducible refine SinceOf.further ?_ _) | (with_reducible refine SinceOf.setCell ?_ (by first | exact Nat.le_refl _ | (simp; done) | omega | (simp; omega)) _)))
  rw [hv0] at HVB hltb ⊢
  clear hv0 x2 x1
  have hv0s := v0.size
  go_wp2_with fail
  go_loopg [6, 7] r.length (fun gas s6 s7 wr => ∃ (i : Nat) (A2 : Option Addr) (c2 : Nat), i ≤ r.length ∧ r.length - i ≤ gas ∧ s6 = .slice A2 i c2 ∧ s7 = .int .i64 i ∧ OwnVecs v0.wd.heap.size wr A2 c2 (M.take i) ∧ SinceOf v0.wd wr)
  case atStart => exact ⟨0, none, 0, by omega, by omega, rfl, rfl, Owns.nil _ _ _ _ _, by (repeat (first | (with_reducible exact SinceOf.refl _) | (with_reducible assumption) | (with_reducible refine SinceOf.alloc ?_ _) | (with_reducible refine SinceOf.drew ?_) | (with_reducible refine SinceOf.drewN ?_ _) | (with_reducible refine SinceOf.later ?_ _) | (with_reducible refine SinceOf.further ?_ _) | (with_reducible refine SinceOf.setCell ?_ (by first | exact Nat.le_refl _ | (simp; done) | omega | (simp; omega)) _)))⟩
  case round =>
    obtain ⟨i, A2, c2, hi, hgas, rfl, rfl, ho, ⟨z, rfl⟩⟩ := hrel
    have hzs := z.size
    by_cases hlt : i < r.length
    · have hr0 := H.out.of (w' := z.wd) (SinceOf.trans ⟨v0, rfl⟩ ⟨z, rfl⟩)
      obtain ⟨g, off, rfl, hr⟩ := hr0.at_ (by omega)
      have hO := hr.there
      have k0 := hr.v0 i hlt
      have k1 := hr.v1 i hlt
      have VZ := HVB.out.of (W' := z.wd) (by (repeat (first | (with_reducible exact SinceOf.refl _) | (with_reducible assumption) | (with_reducible refine SinceOf.alloc ?_ _) | (with_reducible refine SinceOf.drew ?_) | (with_reducible refine SinceOf.drewN ?_ _) | (with_reducible refine SinceOf.later ?_ _) | (with_reducible refine SinceOf.further ?_ _) | (with_reducible refine SinceOf.setCell ?_ (by first | exact Nat.le_refl _ | (simp; done) | omega | (simp; omega)) _))))
      have q0 := VZ.c0
      have q1 := VZ.c1
      have hOv : Nonempty (Old z.wd w.heap.size) := ⟨⟨VZ.lt⟩⟩
      simp only at q0 q1
      have AD := refAdd_any r[i].1 r[i].2 vx vy
      have nr := HC.out.2.2.2.2.2.1 _ (List.getElem_mem hlt)
      have en : (wadd r[i].1 vx, wadd r[i].2 vy) = addP r[i] (vx, vy) := by
        have nv := HC.out.2.2.1
        unfold near at nr nv
        simp only at nv
        rw [wadd_near (n := 1) (by omega) (by omega) (by omega), wadd_near (n := 1) (by omega) (by omega) (by omega)]
        rfl
      have hnx : M.take (i + 1) = M.take i ++ [addP r[i] (vx, vy)] := by
        rw [List.take_succ_eq_append_getElem (by rw [HM.out.2]; exact hlt)]
        congr 2
        have h5 : ∀ (hh : i < M.length), M[i] = addP r[i] (vx, vy) := by rw [HM.out.1]; intro hh; rw [List.getElem_map]
        exact h5 _
      rw [← en] at hnx
      have hl0 : (M.take i).length = i := by rw [List.length_take, HM.out.2]; omega
      obtain ⟨L, hL⟩ : ∃ L, L = M.take i := ⟨_, rfl⟩
      rw [← hL] at ho hnx hl0
      have HP := Lib.hid (And.intro ho (And.intro hnx hl0))
      clear ho hnx hl0 hL hr hr0 en nr VZ
      generalize wadd r[i].1 vx = nx at *
      generalize wadd r[i].2 vy = ny at *
      generalize r[i].1 = px at *
      generalize r[i].2 = py at *
      go_wp2_with fail
      go_region_law
        (first
          | (go_simp; go_at_call 44; refine (AD _).calls.mono ?_; rintro e _ ⟨rfl, z1, rfl⟩; (try dsimp only))
          | (refine step_append_row (by rfl) (.tmp 20) (.tmp 27) 41 (by rfl) encV_len (by omega) encV_one i0 _ 16 Tryz.underlying41 HI.out.1 HI.out.2.1 HI.out.2.2.1 HI.out.2.2.2 rfl (l := L) (A := A2) (c := c2) (base := v0.wd.heap.size) (by rw [HP.out.2.2]; rfl) (HP.out.1.of (by (repeat (first | (with_reducible exact SinceOf.refl _) | (with_reducible assumption) | (with_reducible refine SinceOf.alloc ?_ _) | (with_reducible refine SinceOf.drew ?_) | (with_reducible refine SinceOf.drewN ?_ _) | (with_reducible refine SinceOf.later ?_ _) | (with_reducible refine SinceOf.further ?_ _) | (with_reducible refine SinceOf.setCell ?_ (by first | exact Nat.le_refl _ | (simp; done) | omega | (simp; omega)) _))))) (m := [(nx, ny)]) (by rfl) (isRow_atV _ _ _ _ (by first | rfl | simp)) (by rw [HP.out.2.2]; unfold maxLen; simp; omega) (by rw [HP.out.2.2]; simp; omega) (by have := z1.size; simp at *; omega) ?_; intro A4 c4 w4 ho4 hgr4 hb4))
      all_goals
        go_wp2_with fail
        go_roundg (r.length - (i + 1))
        case measure => omega
        case rel => exact ⟨i + 1, A4, c4, hlt, Nat.le_refl _, (by have q := HP.out.2.2; first | rfl | simp [q]), by go_num, by rw [HP.out.2.1]; exact ho4, SinceOf.grown (by (repeat (first | (with_reducible exact SinceOf.refl _) | (with_reducible assumption) | (with_reducible refine SinceOf.alloc ?_ _) | (with_reducible refine SinceOf.drew ?_) | (with_reducible refine SinceOf.drewN ?_ _) | (with_reducible refine SinceOf.later ?_ _) | (with_reducible refine SinceOf.further ?_ _) | (with_reducible refine SinceOf.setCell ?_ (by first | exact Nat.le_refl _ | (simp; done) | omega | (simp; omega)) _)))) hgr4 (fun q hq => (HP.out.1.below q hq).1)⟩
    · obtain rfl : i = r.length := by omega
      rw [List.take_of_length_le (by rw [HM.out.2]; exact Nat.le_refl _)] at ho
      have B := fun W (hW : SinceOf z.wd W) => refBegin_any A2 c2 M W ((ho.isRow encV_len).of hW) (by rw [HM.out.2]; omega) (by rw [HM.out.2]; omega) ho.le_cap
      rw [HM.out.2] at B
      clear ho
      go_wp2_with fail
      refine (B _ (by (repeat (first | (with_reducible exact SinceOf.refl _) | (with_reducible assumption) | (with_reducible refine SinceOf.alloc ?_ _) | (with_reducible refine SinceOf.drew ?_) | (with_reducible refine SinceOf.drewN ?_ _) | (with_reducible refine SinceOf.later ?_ _) | (with_reducible refine SinceOf.further ?_ _) | (with_reducible refine SinceOf.setCell ?_ (by first | exact Nat.le_refl _ | (simp; done) | omega | (simp; omega)) _))))).mono ?_
      rintro e _ ⟨A3, c3, k, rfl, hk, hm, ho3, ⟨x3, rfl⟩⟩
      have hrl : (rotL k M).length = r.length := by rw [rotL_length (by rw [HM.out.2]; omega), HM.out.2]
      have CK := fun W (hW : SinceOf x3.wd W) => checked_any A3 c3 (rotL k M) W ((ho3.isRow encV_len).of hW) ho3.le_cap (by rw [hrl]; omega)
      rw [hrl] at CK
      have HB6 := Lib.hid (And.intro hk (And.intro hm (And.intro hrl (fun b hb => (ho3.below b hb).1))))
      clear B ho3 hm hrl hk
      go_wp2_with fail
      refine (CK _ (by (repeat (first | (with_reducible exact SinceOf.refl _) | (with_reducible assumption) | (with_reducible refine SinceOf.alloc ?_ _) | (with_reducible refine SinceOf.drew ?_) | (with_reducible refine SinceOf.drewN ?_ _) | (with_reducible refine SinceOf.later ?_ _) | (with_reducible refine SinceOf.further ?_ _) | (with_reducible refine SinceOf.setCell ?_ (by first | exact Nat.le_refl _ | (simp; done) | omega | (simp; omega)) _))))).mono ?_
      rintro e _ ⟨A7, c7, rfl, hv7, hc7, ha7, ⟨x7, rfl⟩⟩
      have HP := Lib.hid (And.intro hv7 (And.intro hc7 ha7))
      clear hv7 hc7 ha7 CK
      go_wp2_with fail
      go_returns
      refine ⟨A7, c7, checkedV (rotL k M), rfl, ?_, HP.out.1, HP.out.2.1, fun b hb => ?_, by (repeat (first | (with_reducible exact SinceOf.refl _) | (with_reducible assumption) | (with_reducible refine SinceOf.alloc ?_ _) | (with_reducible refine SinceOf.drew ?_) | (with_reducible refine SinceOf.drewN ?_ _) | (with_reducible refine SinceOf.later ?_ _) | (with_reducible refine SinceOf.further ?_ _) | (with_reducible refine SinceOf.setCell ?_ (by first | exact Nat.le_refl _ | (simp; done) | omega | (simp; omega)) _)))⟩
      · unfold MoveV
        rw [if_pos HC.out.1, ← HM.out.1]
        by_cases ha : M.all inV = true
        · rw [if_pos ⟨HC.out.2.1, ha⟩]
          have hn8 : ∀ p ∈ M, near 8000 p := fun p hp => inV_near.1 (List.all_eq_true.1 ha p hp)
          obtain ⟨m1, m2, m3⟩ := map_begun (f := fun p => addP p (vx, vy)) (k := k) HC.out.2.2.2 (det_mov (vx, vy)) (fun p hp => hn8 _ (by rw [HM.out.1]; exact List.mem_map.2 ⟨p, hp, rfl⟩)) HB6.out.1 (by rw [← HM.out.1]; exact HB6.out.2.1)
          rw [← HM.out.1] at m1 m3
          rw [checkedV_ok (fun p hp => hn8 p ((mem_rotL p).1 hp)) (by rw [HB6.out.2.2.1]; omega)]
          exact ⟨m1, m3, rfl⟩
        · rw [if_neg fun q => ha q.2, checkedV_no]
          intro q
          exact ha (List.all_eq_true.2 fun p hp => List.all_eq_true.1 q p ((mem_rotL p).2 hp))
      · rcases HP.out.2.2 with q | q
        · rw [q] at hb; cases hb
        · rw [q] at hb
          have := HB6.out.2.2.2 b hb
          omega
end Go.Proofs.YtpbgimdbhgahkaaGreat
