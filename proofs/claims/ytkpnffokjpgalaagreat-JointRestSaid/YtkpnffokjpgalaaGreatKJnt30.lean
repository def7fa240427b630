/- Layer 46: Gaps of the reference. -/
import Derived.Test.YtkpnffokjpgalaaGreatKJnt29
namespace Go.Proofs.YtkpnffokjpgalaaGreat
set_option linter.unusedVariables false
set_option linter.unusedSimpArgs false
open Go.RowKit Go.Sort
attribute [local go_sem ↓] Go.wp_at_zero Go.wp_at_succ

theorem idxs_succ (n : Nat) : idxs (n + 1) = idxs n ++ [(n : Int)] := by unfold idxs; rw [List.range_succ, List.map_append]; rfl
/-- The edges that get gaps, among the first. -/
def pickT (E : Int → Int) (n m i : Nat) : List Int := (idxs i).filter fun x => decide (aheadI E n x < m)
theorem pickT_succ (E : Int → Int) (n m i : Nat) : pickT E n m (i + 1) = pickT E n m i ++ (if aheadI E n (i : Int) < m then [(i : Int)] else []) := by
  unfold pickT
  rw [idxs_succ, List.filter_append]
  congr 1
  by_cases h : aheadI E n (i : Int) < m <;> simp [h]
theorem pickT_len (E : Int → Int) (n m i : Nat) : (pickT E n m i).length ≤ i := by
  unfold pickT
  exact Nat.le_trans (List.length_filter_le _ _) (by rw [idxs_len]; exact Nat.le_refl _)
def cntT (E : Int → Int) (i : Int) (k : Nat) : Nat := ((idxs k).filter fun x => ltI E x i).length
theorem cntT_succ (E : Int → Int) (i : Int) (k : Nat) : cntT E i (k + 1) = cntT E i k + (if ltI E k i = true then 1 else 0) := by
  unfold cntT
  rw [idxs_succ, List.filter_append, List.length_append]
  congr 1
  cases h : ltI E k i <;> simp [h]
theorem cntT_le (E : Int → Int) (i : Int) (k : Nat) : cntT E i k ≤ k := by
  unfold cntT
  exact Nat.le_trans (List.length_filter_le _ _) (by rw [idxs_len]; exact Nat.le_refl _)
theorem gapsL_short {S : List SegP} {m i : Nat} (hi : i < S.length) (ha : aheadI (keyQ S) S.length (i : Int) < m) (hk : keyQ S (i : Int) < 3) : gapsL S m = ([], 8) := by
  unfold gapsL
  rw [if_neg]
  rw [Bool.and_eq_true, List.all_eq_true]
  rintro ⟨h1, -⟩
  have := of_decide_eq_true (h1 (i : Int) (pickI_mem.2 ⟨by omega, ha⟩))
  omega
set_option maxRecDepth 100000 in
set_option maxHeartbeats 16000000 in
theorem refGaps_any (A : Option Addr) (c : Nat) (r : List (Int × Int)) (n : Int) (w : World) (h : IsVecs w A c r) (hlen : r.length < 4611686018427387904) :
    Calls Tryz.prog 11 #[.slice A r.length c, .int .i64 n] w (GapsE w (gapsR r n)) := by
  have V := fun W (hW : SinceOf w W) => refRingValid_any A c r W (h.of hW) hlen
  have H := Lib.hid h
  clear h
  generalize hres : gapsR r n = res
  have HR := Lib.hid hres
  clear hres
  cases hok : okB r
  · obtain rfl : res = ([], 11) := by rw [← HR.out]; unfold gapsR; rw [hok, if_neg Bool.false_ne_true]
    rw [hok] at V
    clear hok
    go_enter Tryz.func11, Tryz.ntmps11
    go_wp2_with fail
    refine (V _ (by (repeat (first | (with_reducible exact SinceOf.refl _) | (with_reducible assumption) | (with_reducible refine SinceOf.alloc ?_ _) | (with_reducible refine SinceOf.drew ?_) | (with_reducible refine SinceOf.drewN ?_ _) | (with_reducible refine SinceOf.later ?_ _) | (with_reducible refine SinceOf.further ?_ _) | (with_reducible refine SinceOf.setCell ?_ (by first | exact Nat.le_refl _ | (simp; done) | omega | (simp; omega)) _))))).calls.mono ?_
    rintro e _ ⟨rfl, x1, rfl⟩
    go_wp2_with fail
    go_returns
    exact ⟨none, 0, rfl, Owns.nil _ _ _ _ _, (by show (0:Nat) ≤ _; omega), by (repeat (first | (with_reducible exact SinceOf.refl _) | (with_reducible assumption) | (with_reducible refine SinceOf.alloc ?_ _) | (with_reducible refine SinceOf.drew ?_) | (with_reducible refine SinceOf.drewN ?_ _) | (with_reducible refine SinceOf.later ?_ _) | (with_reducible refine SinceOf.further ?_ _) | (with_reducible refine SinceOf.setCell ?_ (by first | exact Nat.le_refl _ | (simp; done) | omega | (simp; omega)) _)))⟩
  rw [hok] at V
  by_cases hn0 : n < 0
  · obtain rfl : res = ([], 2) := by rw [← HR.out]; unfold gapsR; rw [hok, if_pos rfl, if_pos (.inl hn0)]
    have g1 : decide (n < 0) = true := decide_eq_true hn0
    clear hok
    go_enter Tryz.func11, Tryz.ntmps11
    go_wp2_with fail
    refine (V _ (by (repeat (first | (with_reducible exact SinceOf.refl _) | (with_reducible assumption) | (with_reducible refine SinceOf.alloc ?_ _) | (with_reducible refine SinceOf.drew ?_) | (with_reducible refine SinceOf.drewN ?_ _) | (with_reducible refine SinceOf.later ?_ _) | (with_reducible refine SinceOf.further ?_ _) | (with_reducible refine SinceOf.setCell ?_ (by first | exact Nat.le_refl _ | (simp; done) | omega | (simp; omega)) _))))).calls.mono ?_
    rintro e _ ⟨rfl, x1, rfl⟩
    go_wp2_with fail
    go_returns
    exact ⟨none, 0, rfl, Owns.nil _ _ _ _ _, (by show (0:Nat) ≤ _; omega), by (repeat (first | (with_reducible exact SinceOf.refl _) | (with_reducible assumption) | (with_reducible refine SinceOf.alloc ?_ _) | (with_reducible refine SinceOf.drew ?_) | (with_reducible refine SinceOf.drewN ?_ _) | (with_reducible refine SinceOf.later ?_ _) | (with_reducible refine SinceOf.further ?_ _) | (with_reducible refine SinceOf.setCell ?_ (by first | exact Nat.le_refl _ | (simp; done) | omega | (simp; omega)) _)))⟩
  have g1 : decide (n < 0) = false := decide_eq_false hn0
  by_cases hn10 : 10 < n
  · obtain rfl : res = ([], 2) := by rw [← HR.out]; unfold gapsR; rw [hok, if_pos rfl, if_pos (.inr hn10)]
    have g2 : decide (10 < n) = true := decide_eq_true hn10
    clear hok
    go_enter Tryz.func11, Tryz.ntmps11
    go_wp2_with fail
    refine (V _ (by (repeat (first | (with_reducible exact SinceOf.refl _) | (with_reducible assumption) | (with_reducible refine SinceOf.alloc ?_ _) | (with_reducible refine SinceOf.drew ?_) | (with_reducible refine SinceOf.drewN ?_ _) | (with_reducible refine SinceOf.later ?_ _) | (with_reducible refine SinceOf.further ?_ _) | (with_reducible refine SinceOf.setCell ?_ (by first | exact Nat.le_refl _ | (simp; done) | omega | (simp; omega)) _))))).calls.mono ?_
    rintro e _ ⟨rfl, x1, rfl⟩
    go_wp2_with fail
    go_returns
    exact ⟨none, 0, rfl, Owns.nil _ _ _ _ _, (by show (0:Nat) ≤ _; omega), by (repeat (first | (with_reducible exact SinceOf.refl _) | (with_reducible assumption) | (with_reducible refine SinceOf.alloc ?_ _) | (with_reducible refine SinceOf.drew ?_) | (with_reducible refine SinceOf.drewN ?_ _) | (with_reducible refine SinceOf.later ?_ _) | (with_reducible refine SinceOf.further ?_ _) | (with_reducible refine SinceOf.setCell ?_ (by first | exact Nat.le_refl _ | (simp; done) | omega | (simp; omega)) _)))⟩
  have g2 : decide (10 < n) = false := decide_eq_false hn10
  have hres2 : gapsL (edgesV r) n.toNat = res := by rw [← HR.out]; unfold gapsR; rw [hok, if_pos rfl, if_neg (by omega)]
  obtain ⟨m, rfl⟩ : ∃ m : Nat, n = m := ⟨n.toNat, by omega⟩
  rw [Int.toNat_natCast] at hres2
  have hm10 : m ≤ 10 := by omega
  obtain ⟨hE1, hE2⟩ := okB_edgeN hok
  obtain ⟨l3, l40⟩ := okB_len40 hok
  have ED := fun W (hW : SinceOf w W) => refEdges_any A c r W (H.out.of hW) (by have := (okB_iff.1 hok).most; omega)
  have HR2 := Lib.hid (And.intro hres2 hE2)
  generalize edgesV r = S at *
  obtain ⟨i1, hi, hz0, hz1, hz2⟩ := info_parts infoSeg
  have HJ := Lib.hid (And.intro hi (And.intro hz0 (And.intro hz1 hz2)))
  clear hi hz0 hz1 hz2 hok hn0 hn10 hE1 hE2 HR hres2
  go_enter Tryz.func11, Tryz.ntmps11
  go_wp2_with fail
  refine (V _ (by (repeat (first | (with_reducible exact SinceOf.refl _) | (with_reducible assumption) | (with_reducible refine SinceOf.alloc ?_ _) | (with_reducible refine SinceOf.drew ?_) | (with_reducible refine SinceOf.drewN ?_ _) | (with_reducible refine SinceOf.later ?_ _) | (with_reducible refine SinceOf.further ?_ _) | (with_reducible refine SinceOf.setCell ?_ (by first | exact Nat.le_refl _ | (simp; done) | omega | (simp; omega)) _))))).calls.mono ?_
  rintro e _ ⟨rfl, x1, rfl⟩
  go_wp2_with fail
  refine (ED _ (by (repeat (first | (with_reducible exact SinceOf.refl _) | (with_reducible assumption) | (with_reducible refine SinceOf.alloc ?_ _) | (with_reducible refine SinceOf.drew ?_) | (with_reducible refine SinceOf.drewN ?_ _) | (with_reducible refine SinceOf.later ?_ _) | (with_reducible refine SinceOf.further ?_ _) | (with_reducible refine SinceOf.setCell ?_ (by first | exact Nat.le_refl _ | (simp; done) | omega | (simp; omega)) _))))).mono ?_
  rintro e _ ⟨A4, c4, rfl, ho4, ⟨x2, rfl⟩⟩
  have hx1 := x1.size
  have hx2 := x2.size
  have H4 := Lib.hid (ho4.isRow encE_len)
  clear g1 g2 V ED ho4
  go_wp2_with fail
  go_loopg [7, 8] S.length (fun gas s7 s8 wr => ∃ (i : Nat) (A3 : Option Addr) (c3 : Nat) (O : List SegP), i ≤ S.length ∧ S.length - i ≤ gas ∧ s7 = .slice A3 O.length c3 ∧ s8 = .int .i64 i ∧ O = (pickT (keyQ S) S.length m i).map (gapAt S) ∧ (∀ x ∈ pickT (keyQ S) S.length m i, 3 ≤ keyQ S x) ∧ O.length ≤ i ∧ OwnSegs x2.wd.heap.size wr A3 c3 O ∧ SinceOf x2.wd wr)
  case atStart => exact ⟨0, none, 0, [], by omega, by omega, rfl, rfl, rfl, fun x hx => by simp [pickT, idxs] at hx, Nat.le_refl _, Owns.nil _ _ _ _ _, by (repeat (first | (with_reducible exact SinceOf.refl _) | (with_reducible assumption) | (with_reducible refine SinceOf.alloc ?_ _) | (with_reducible refine SinceOf.drew ?_) | (with_reducible refine SinceOf.drewN ?_ _) | (with_reducible refine SinceOf.later ?_ _) | (with_reducible refine SinceOf.further ?_ _) | (with_reducible refine SinceOf.setCell ?_ (by first | exact Nat.le_refl _ | (simp; done) | omega | (simp; omega)) _)))⟩
  case round =>
    obtain ⟨i, A3, c3, O, hi, hgas, rfl, rfl, hO, h3, hOl, hoO, ⟨z, rfl⟩⟩ := hrel
    have hzs := z.size
    by_cases hlt : i < S.length
    · have hrow := H4.out.of (w' := z.wd) (by (repeat (first | (with_reducible exact SinceOf.refl _) | (with_reducible assumption) | (with_reducible refine SinceOf.alloc ?_ _) | (with_reducible refine SinceOf.drew ?_) | (with_reducible refine SinceOf.drewN ?_ _) | (with_reducible refine SinceOf.later ?_ _) | (with_reducible refine SinceOf.further ?_ _) | (with_reducible refine SinceOf.setCell ?_ (by first | exact Nat.le_refl _ | (simp; done) | omega | (simp; omega)) _))))
      obtain ⟨g5, off5, rfl, hr⟩ := hrow.at_ (by omega)
      have hO5 := hr.there
      have a0 := hr.e0 i hlt
      have a1 := hr.e1 i hlt
      have a2 := hr.e2 i hlt
      have a3 := hr.e3 i hlt
      have hsn := HR2.out.2 _ (List.getElem_mem hlt)
      have T := refSteps_any S[i]
      have hkk : stepsI S[i] = keyQ S (i : Int) := by unfold keyQ; simp [List.getD_eq_getElem?_getD, hlt]
      have hgo : gapAt S (i : Int) = gapOf S[i] := by unfold gapAt; simp [List.getD_eq_getElem?_getD, hlt]
      have hsk : stepsI S[i] = stepsK S[i].1 S[i].2 := by unfold stepsI; rw [if_pos (segN_ok hsn)]
      have h8 := (stepsK_small hsn.2.1 hsn.2.2 hsn.1).2
      have h80 := (stepsK_small hsn.2.1 hsn.2.2 hsn.1).1
      rw [← hsk] at h8 h80
      have PT := fun n hn => refPoint_any S[i] n (segN_ok hsn) hsn.1 hn
      obtain ⟨gv, hgv⟩ : ∃ gv, gv = stepsI S[i] := ⟨_, rfl⟩
      have hgp : gapOf S[i] = (pointK S[i].1 S[i].2 ((gv - 1) / 2), pointK S[i].1 S[i].2 ((gv - 1) / 2 + 1)) := by rw [hgv]; rfl
      rw [← hgv] at T h8 h80 hkk
      have hps := pickT_succ (keyQ S) S.length m i
      rw [show S[i] = ((S[i].1.1, S[i].1.2), (S[i].2.1, S[i].2.2)) from rfl] at T
      change ∀ w, Gives _ _ #[sg S[i].1.1 S[i].1.2 S[i].2.1 S[i].2.2] w _ at T
      have HS := Lib.hid (And.intro hps (And.intro h3 (And.intro hoO (And.intro hkk (And.intro hgo (And.intro hgp (And.intro PT hO)))))))
      clear hps h3 hoO hkk hgo hgp hsk hgv hO hr hrow PT
      obtain ⟨xa, hxa⟩ : ∃ x, x = S[i].1.1 := ⟨_, rfl⟩
      obtain ⟨xb, hxb⟩ : ∃ x, x = S[i].1.2 := ⟨_, rfl⟩
      obtain ⟨xc, hxc⟩ : ∃ x, x = S[i].2.1 := ⟨_, rfl⟩
      obtain ⟨xd, hxd⟩ : ∃ x, x = S[i].2.2 := ⟨_, rfl⟩
      rw [← hxa] at a0 T
      rw [← hxb] at a1 T
      rw [← hxc] at a2 T
      rw [← hxd] at a3 T
      have HX := Lib.hid (And.intro hxa (And.intro hxb (And.intro hxc hxd)))
      clear hxa hxb hxc hxd
      go_wp2_with fail
      refine (T _).calls.mono ?_
      rintro e _ ⟨rfl, z1, rfl⟩
      have hz1 := z1.size
      clear T
      go_wp2_with fail
      go_loopg [10, 11] S.length (fun gas s10 s11 wr => ∃ (k cn : Nat), k ≤ S.length ∧ S.length - k ≤ gas ∧ s10 = .int .i64 (cn : Int) ∧ s11 = .int .i64 (k : Int) ∧ cn ≤ k ∧ cn = cntT (keyQ S) (i : Int) k ∧ SinceOf z1.wd wr)
      case atStart => exact ⟨0, 0, by omega, by omega, by go_num, by go_num, Nat.le_refl _, rfl, by (repeat (first | (with_reducible exact SinceOf.refl _) | (with_reducible assumption) | (with_reducible refine SinceOf.alloc ?_ _) | (with_reducible refine SinceOf.drew ?_) | (with_reducible refine SinceOf.drewN ?_ _) | (with_reducible refine SinceOf.later ?_ _) | (with_reducible refine SinceOf.further ?_ _) | (with_reducible refine SinceOf.setCell ?_ (by first | exact Nat.le_refl _ | (simp; done) | omega | (simp; omega)) _)))⟩
      case round =>
        obtain ⟨k, cn, hk, hgas2, rfl, rfl, hcnk, hcn, ⟨v, rfl⟩⟩ := hrel
        have hvs := v.size
        by_cases hlt2 : k < S.length
        · have hrow := H4.out.of (w' := v.wd) (by (repeat (first | (with_reducible exact SinceOf.refl _) | (with_reducible assumption) | (with_reducible refine SinceOf.alloc ?_ _) | (with_reducible refine SinceOf.drew ?_) | (with_reducible refine SinceOf.drewN ?_ _) | (with_reducible refine SinceOf.later ?_ _) | (with_reducible refine SinceOf.further ?_ _) | (with_reducible refine SinceOf.setCell ?_ (by first | exact Nat.le_refl _ | (simp; done) | omega | (simp; omega)) _))))
          obtain ⟨g6, off6, e6, hr⟩ := hrow.at_ (by omega)
          simp only [Option.some.injEq, Addr.mk.injEq, and_true] at e6
          obtain ⟨rfl, rfl⟩ := e6
          have b0 := hr.e0 k hlt2
          have b1 := hr.e1 k hlt2
          have b2 := hr.e2 k hlt2
          have b3 := hr.e3 k hlt2
          have T := refSteps_any S[k]
          have hkk : stepsI S[k] = keyQ S (k : Int) := by unfold keyQ; simp [List.getD_eq_getElem?_getD, hlt2]
          have hsu := cntT_succ (keyQ S) (i : Int) k
          rw [← hcn] at hsu
          obtain ⟨hv, hhv⟩ : ∃ hv, hv = stepsI S[k] := ⟨_, rfl⟩
          rw [← hhv] at T hkk
          have hlI : ltI (keyQ S) (k : Int) (i : Int) = decide (gv < hv ∨ hv = gv ∧ (k : Int) < (i : Int)) := by unfold ltI; rw [← hkk, ← HS.out.2.2.2.1]
          obtain ⟨bb, hbb⟩ : ∃ b, b = ltI (keyQ S) (k : Int) (i : Int) := ⟨_, rfl⟩
          rw [← hbb] at hsu hlI
          change ∀ w, Gives _ _ #[sg S[k].1.1 S[k].1.2 S[k].2.1 S[k].2.2] w _ at T
          have HY := Lib.hid (And.intro hsu hlI)
          generalize S[k].1.1 = ya at b0 T
          generalize S[k].1.2 = yb at b1 T
          generalize S[k].2.1 = yc at b2 T
          generalize S[k].2.2 = yd at b3 T
          clear hsu hlI hbb hkk hcn hhv hr hrow
          go_wp2_with fail
          refine (T _).calls.mono ?_
          rintro e _ ⟨rfl, v1, rfl⟩
          clear T b0 b1 b2 b3
          go_upto_region 16 with fail
          go_cut [59] from 47 to 59 (fun s59 wx => s59 = .bool bb ∧ SinceOf v.wd wx)
          case first =>
            by_cases q1 : gv < hv
            · have f1 : decide (gv < hv) = true := decide_eq_true q1
              have hb : bb = true := by rw [HY.out.2]; exact decide_eq_true (.inl q1)
              have HB := Lib.hid hb
              clear hb q1
              go_wp2_with fail
              go_meet
              exact ⟨by rw [HB.out], by (repeat (first | (with_reducible exact SinceOf.refl _) | (with_reducible assumption) | (with_reducible refine SinceOf.alloc ?_ _) | (with_reducible refine SinceOf.drew ?_) | (with_reducible refine SinceOf.drewN ?_ _) | (with_reducible refine SinceOf.later ?_ _) | (with_reducible refine SinceOf.further ?_ _) | (with_reducible refine SinceOf.setCell ?_ (by first | exact Nat.le_refl _ | (simp; done) | omega | (simp; omega)) _)))⟩
            · have f1 : decide (gv < hv) = false := decide_eq_false q1
              by_cases q2 : hv = gv
              · have f2 : (hv == gv) = true := by simpa using q2
                have hb : bb = decide (k < i) := by rw [HY.out.2, decide_eq_decide]; omega
                have HB := Lib.hid hb
                clear hb q1 q2
                go_wp2_with fail
                go_meet
                exact ⟨by rw [HB.out], by (repeat (first | (with_reducible exact SinceOf.refl _) | (with_reducible assumption) | (with_reducible refine SinceOf.alloc ?_ _) | (with_reducible refine SinceOf.drew ?_) | (with_reducible refine SinceOf.drewN ?_ _) | (with_reducible refine SinceOf.later ?_ _) | (with_reducible refine SinceOf.further ?_ _) | (with_reducible refine SinceOf.setCell ?_ (by first | exact Nat.le_refl _ | (simp; done) | omega | (simp; omega)) _)))⟩
              · have f2 : (hv == gv) = false := by simpa using q2
                have hb : bb = false := by rw [HY.out.2]; exact decide_eq_false (by omega)
                have HB := Lib.hid hb
                clear hb q1 q2
                go_wp2_with fail
                go_meet
                exact ⟨by rw [HB.out], by (repeat (first | (with_reducible exact SinceOf.refl _) | (with_reducible assumption) | (with_reducible refine SinceOf.alloc ?_ _) | (with_reducible refine SinceOf.drew ?_) | (with_reducible refine SinceOf.drewN ?_ _) | (with_reducible refine SinceOf.later ?_ _) | (with_reducible refine SinceOf.further ?_ _) | (with_reducible refine SinceOf.setCell ?_ (by first | exact Nat.le_refl _ | (simp; done) | omega | (simp; omega)) _)))⟩
          case rest =>
            obtain ⟨rfl, ⟨v2, rfl⟩⟩ := hcut
            cases bb
            · go_wp2_with fail
              go_roundg (S.length - (k + 1))
              case measure => omega
              case rel => exact ⟨k + 1, cn, hlt2, Nat.le_refl _, rfl, by go_num, by omega, by rw [HY.out.1]; simp, by (repeat (first | (with_reducible exact SinceOf.refl _) | (with_reducible assumption) | (with_reducible refine SinceOf.alloc ?_ _) | (with_reducible refine SinceOf.drew ?_) | (with_reducible refine SinceOf.drewN ?_ _) | (with_reducible refine SinceOf.later ?_ _) | (with_reducible refine SinceOf.further ?_ _) | (with_reducible refine SinceOf.setCell ?_ (by first | exact Nat.le_refl _ | (simp; done) | omega | (simp; omega)) _)))⟩
            · go_wp2_with fail
              go_roundg (S.length - (k + 1))
              case measure => omega
              case rel => exact ⟨k + 1, cn + 1, hlt2, Nat.le_refl _, by go_num, by go_num, by omega, by rw [HY.out.1]; simp, by (repeat (first | (with_reducible exact SinceOf.refl _) | (with_reducible assumption) | (with_reducible refine SinceOf.alloc ?_ _) | (with_reducible refine SinceOf.drew ?_) | (with_reducible refine SinceOf.drewN ?_ _) | (with_reducible refine SinceOf.later ?_ _) | (with_reducible refine SinceOf.further ?_ _) | (with_reducible refine SinceOf.setCell ?_ (by first | exact Nat.le_refl _ | (simp; done) | omega | (simp; omega)) _)))⟩
        · obtain rfl : k = S.length := by omega
          have hah : aheadI (keyQ S) S.length (i : Int) = cn := hcn.symm
          have HA := Lib.hid hah
          clear hcn hah
          by_cases hmc : m ≤ cn
          · have f1 : decide (m ≤ cn) = true := decide_eq_true hmc
            have hsame : pickT (keyQ S) S.length m (i + 1) = pickT (keyQ S) S.length m i := by rw [HS.out.1, if_neg (by rw [HA.out]; omega), List.append_nil]
            have HZ := Lib.hid hsame
            clear hmc hsame
            go_wp2_with fail
            go_roundg (S.length - (i + 1))
            case measure => omega
            case rel => exact ⟨i + 1, A3, c3, O, hlt, Nat.le_refl _, rfl, by go_num, by rw [HZ.out]; exact HS.out.2.2.2.2.2.2.2, by rw [HZ.out]; exact HS.out.2.1, by omega, HS.out.2.2.1.of (by (repeat (first | (with_reducible exact SinceOf.refl _) | (with_reducible assumption) | (with_reducible refine SinceOf.alloc ?_ _) | (with_reducible refine SinceOf.drew ?_) | (with_reducible refine SinceOf.drewN ?_ _) | (with_reducible refine SinceOf.later ?_ _) | (with_reducible refine SinceOf.further ?_ _) | (with_reducible refine SinceOf.setCell ?_ (by first | exact Nat.le_refl _ | (simp; done) | omega | (simp; omega)) _)))), by (repeat (first | (with_reducible exact SinceOf.refl _) | (with_reducible assumption) | (with_reducible refine SinceOf.alloc ?_ _) | (with_reducible refine SinceOf.drew ?_) | (with_reducible refine SinceOf.drewN ?_ _) | (with_reducible refine SinceOf.later ?_ _) | (with_reducible refine SinceOf.further ?_ _) | (with_reducible refine SinceOf.setCell ?_ (by first | exact Nat.le_refl _ | (simp; done) | omega | (simp; omega)) _)))⟩
          have f1 : decide (m ≤ cn) = false := decide_eq_false hmc
          by_cases hg3 : gv < 3
          · have f2 : decide (gv < 3) = true := decide_eq_true hg3
            obtain rfl : res = ([], 8) := by rw [← HR2.out.1]; exact gapsL_short hlt (by rw [HA.out]; omega) (by rw [← HS.out.2.2.2.1]; exact hg3)
            go_wp2_with fail
            go_returns
            exact ⟨none, 0, rfl, Owns.nil _ _ _ _ _, (by show (0:Nat) ≤ _; omega), by (repeat (first | (with_reducible exact SinceOf.refl _) | (with_reducible assumption) | (with_reducible refine SinceOf.alloc ?_ _) | (with_reducible refine SinceOf.drew ?_) | (with_reducible refine SinceOf.drewN ?_ _) | (with_reducible refine SinceOf.later ?_ _) | (with_reducible refine SinceOf.further ?_ _) | (with_reducible refine SinceOf.setCell ?_ (by first | exact Nat.le_refl _ | (simp; done) | omega | (simp; omega)) _)))⟩
          have f2 : decide (gv < 3) = false := decide_eq_false hg3
          have hpn : pickT (keyQ S) S.length m (i + 1) = pickT (keyQ S) S.length m i ++ [(i : Int)] := by rw [HS.out.1, if_pos (by rw [HA.out]; omega)]
          have hgp := HS.out.2.2.2.2.2.1
          obtain ⟨q, hq⟩ : ∃ q, q = (gv - 1) / 2 := ⟨_, rfl⟩
          rw [← hq] at hgp
          have hq0 : 0 ≤ q ∧ q ≤ 8000 := by omega
          have eq1 : (gv - 1) / 2 = q := hq.symm
          have P1 := HS.out.2.2.2.2.2.2.1 q (by unfold small5; omega)
          have P2 := HS.out.2.2.2.2.2.2.1 (q + 1) (by unfold small5; omega)
          change ∀ w, Gives _ _ #[sg S[i].1.1 S[i].1.2 S[i].2.1 S[i].2.2, _] w _ at P1
          change ∀ w, Gives _ _ #[sg S[i].1.1 S[i].1.2 S[i].2.1 S[i].2.2, _] w _ at P2
          rw [← HX.out.1, ← HX.out.2.1, ← HX.out.2.2.1, ← HX.out.2.2.2] at P1 P2
          generalize pointK S[i].1 S[i].2 q = k0 at *
          generalize pointK S[i].1 S[i].2 (q + 1) = k1 at *
          obtain ⟨k0, k2⟩ := k0
          obtain ⟨k1, k3⟩ := k1
          have hfin : O ++ [((k0, k2), (k1, k3))] = (pickT (keyQ S) S.length m (i + 1)).map (gapAt S) := by
            rw [hpn, List.map_append, ← HS.out.2.2.2.2.2.2.2, List.map_cons, List.map_nil, HS.out.2.2.2.2.1, hgp]
          have hall : ∀ x ∈ pickT (keyQ S) S.length m (i + 1), 3 ≤ keyQ S x := fun x hx => by
            rw [hpn] at hx
            rcases List.mem_append.1 hx with hx | hx
            · exact HS.out.2.1 x hx
            · simp only [List.mem_singleton] at hx
              rw [hx, ← HS.out.2.2.2.1]
              omega
          have HZ := Lib.hid (And.intro hfin (And.intro hall HS.out.2.2.1))
          have hw1 : IntKind.i64.wrap (q + 1) = q + 1 := IntWalk.i64_in _ (by omega)
          obtain ⟨hq1, hq2⟩ := hq0
          simp only at P1 P2
          clear hfin hall hpn hgp hq
          have c0 : v.wd.cell? ⟨g5, off5 + i * 4, none⟩ = some (.int .i64 xa) := by simp [go_sem, a0]
          have c1 : v.wd.cell? ⟨g5, off5 + i * 4 + 1, none⟩ = some (.int .i64 xb) := by simp [go_sem, a1]
          have c2 : v.wd.cell? ⟨g5, off5 + i * 4 + 2, none⟩ = some (.int .i64 xc) := by simp [go_sem, a2]
          have c3' : v.wd.cell? ⟨g5, off5 + i * 4 + 3, none⟩ = some (.int .i64 xd) := by simp [go_sem, a3]
          go_upto_region 22 with fail
          rw [eq1]
          clear eq1 f1 f2
          go_region_held3 (fun w' => w'.cell? ⟨g5, off5 + i * 4, none⟩ = some (.int .i64 xa) ∧ w'.cell? ⟨g5, off5 + i * 4 + 1, none⟩ = some (.int .i64 xb) ∧ w'.cell? ⟨g5, off5 + i * 4 + 2, none⟩ = some (.int .i64 xc) ∧ w'.cell? ⟨g5, off5 + i * 4 + 3, none⟩ = some (.int .i64 xd)) ((simp [go_sem, *]))
            (first
              | (go_at_call 41; (with_reducible refine (P1 _).calls.mono ?_); rintro e _ ⟨rfl, y1, rfl⟩; have sy1 := y1.size; (try simp only [World.size_alloc, World.size_drew] at sy1))
              | (go_at_call 41; (with_reducible refine (P2 _).calls.mono ?_); rintro e _ ⟨rfl, y2, rfl⟩; have sy2 := y2.size; (try simp only [World.size_alloc, World.size_drew] at sy2))
              | (refine step_append_row (by rfl) (.tmp 70) (.tmp 85) 30 (by rfl) encE_len (by omega) encE_one i1 _ 32 Tryz.underlying30 HJ.out.1 HJ.out.2.1 HJ.out.2.2.1 HJ.out.2.2.2 rfl (l := O) (A := A3) (c := c3) (base := x2.wd.heap.size) (by rfl) (HZ.out.2.2.of (by (repeat (first | (with_reducible exact SinceOf.refl _) | (with_reducible assumption) | (with_reducible refine SinceOf.alloc ?_ _) | (with_reducible refine SinceOf.drew ?_) | (with_reducible refine SinceOf.drewN ?_ _) | (with_reducible refine SinceOf.later ?_ _) | (with_reducible refine SinceOf.further ?_ _) | (with_reducible refine SinceOf.setCell ?_ (by first | exact Nat.le_refl _ | (simp; done) | omega | (simp; omega)) _))))) (m := [((k0, k2), (k1, k3))]) (by rfl) (isRow_atE _ _ _ _ _ _ (by first | rfl | simp)) (by unfold maxLen; simp; omega) (by simp; omega) (by simp; omega) ?_; intro A5 c5 w5 ho5 hgr5 hb5; have k5 : SinceOf x2.wd w5 := SinceOf.grown (by (repeat (first | (with_reducible exact SinceOf.refl _) | (with_reducible assumption) | (with_reducible refine SinceOf.alloc ?_ _) | (with_reducible refine SinceOf.drew ?_) | (with_reducible refine SinceOf.drewN ?_ _) | (with_reducible refine SinceOf.later ?_ _) | (with_reducible refine SinceOf.further ?_ _) | (with_reducible refine SinceOf.setCell ?_ (by first | exact Nat.le_refl _ | (simp; done) | omega | (simp; omega)) _)))) hgr5 (fun q hq => (HZ.out.2.2.below q hq).1); have HR5 := H4.out.of k5; have HK5 := Lib.hid ho5; clear ho5 hgr5 hb5; obtain ⟨gg, oo, ee, rr⟩ := HR5.at_ (by omega); simp only [Option.some.injEq, Addr.mk.injEq, and_true] at ee; obtain ⟨rfl, rfl⟩ := ee; have d0 := rr.e0 i hlt; have d1 := rr.e1 i hlt; have d2 := rr.e2 i hlt; have d3 := rr.e3 i hlt; rw [← HX.out.1] at d0; rw [← HX.out.2.1] at d1; rw [← HX.out.2.2.1] at d2; rw [← HX.out.2.2.2] at d3; clear rr HR5; obtain ⟨y5, rfl⟩ := k5))
          all_goals
            clear P1 P2 hw1 a0 a1 a2 a3 c0 c1 c2 c3'
            go_wp2_with fail
            go_roundg (S.length - (i + 1))
            case measure => omega
            case rel => exact ⟨i + 1, A5, c5, O ++ [((k0, k2), (k1, k3))], hlt, Nat.le_refl _, (by first | rfl | simp), by go_num, HZ.out.1, HZ.out.2.1, by simp; omega, HK5.out, by (repeat (first | (with_reducible exact SinceOf.refl _) | (with_reducible assumption) | (with_reducible refine SinceOf.alloc ?_ _) | (with_reducible refine SinceOf.drew ?_) | (with_reducible refine SinceOf.drewN ?_ _) | (with_reducible refine SinceOf.later ?_ _) | (with_reducible refine SinceOf.further ?_ _) | (with_reducible refine SinceOf.setCell ?_ (by first | exact Nat.le_refl _ | (simp; done) | omega | (simp; omega)) _)))⟩
    · obtain rfl : i = S.length := by omega
      have hO2 : O = (pickI (keyQ S) S.length m).map (gapAt S) := hO
      have h32 : ∀ x ∈ pickI (keyQ S) S.length m, 3 ≤ keyQ S x := h3
      have hlen2 : O.length = (pickI (keyQ S) S.length m).length := by rw [hO2, List.length_map]
      by_cases hfew : O.length < m
      · have g3 : decide (O.length < m) = true := decide_eq_true hfew
        obtain rfl : res = ([], 8) := by
          rw [← HR2.out.1]
          unfold gapsL
          rw [if_neg]
          rw [Bool.and_eq_true, decide_eq_true_eq]
          omega
        clear hO hO2 h32 h3 hoO hlen2
        go_wp2_with fail
        go_returns
        exact ⟨none, 0, rfl, Owns.nil _ _ _ _ _, (by show (0:Nat) ≤ _; omega), by (repeat (first | (with_reducible exact SinceOf.refl _) | (with_reducible assumption) | (with_reducible refine SinceOf.alloc ?_ _) | (with_reducible refine SinceOf.drew ?_) | (with_reducible refine SinceOf.drewN ?_ _) | (with_reducible refine SinceOf.later ?_ _) | (with_reducible refine SinceOf.further ?_ _) | (with_reducible refine SinceOf.setCell ?_ (by first | exact Nat.le_refl _ | (simp; done) | omega | (simp; omega)) _)))⟩
      · have g3 : decide (O.length < m) = false := decide_eq_false hfew
        obtain rfl : res = (O, 0) := by
          rw [← HR2.out.1, hO2]
          unfold gapsL
          rw [if_pos]
          rw [Bool.and_eq_true, List.all_eq_true, decide_eq_true_eq]
          exact ⟨fun x hx => decide_eq_true (h32 x hx), by omega⟩
        have hwz : w.heap.size ≤ x2.wd.heap.size := by omega
        have HX := Lib.hid (hoO.base_le hwz)
        have hO40 : O.length ≤ 40 := by omega
        clear hO hO2 h32 h3 hoO hlen2
        go_wp2_with fail
        go_returns
        exact ⟨A3, c3, rfl, HX.out, hO40, by (repeat (first | (with_reducible exact SinceOf.refl _) | (with_reducible assumption) | (with_reducible refine SinceOf.alloc ?_ _) | (with_reducible refine SinceOf.drew ?_) | (with_reducible refine SinceOf.drewN ?_ _) | (with_reducible refine SinceOf.later ?_ _) | (with_reducible refine SinceOf.further ?_ _) | (with_reducible refine SinceOf.setCell ?_ (by first | exact Nat.le_refl _ | (simp; done) | omega | (simp; omega)) _)))⟩
end Go.Proofs.YtkpnffokjpgalaaGreat
/- Layer 46 (plain): the example of the chapter. -/
namespace Go.Proofs.YtkpnffokjpgalaaGreat
set_option linter.unusedVariables false
set_option linter.unusedSimpArgs false

def sqR (x y : Int) : List Pt := [(x, y), (x + 4, y), (x + 4, y + 4), (x, y + 4)]
set_option maxRecDepth 100000 in
theorem aw_gaps : gapsR (sqR 0 0) 1 = ([((1, 0), (2, 0))], 0) := by decide +kernel
set_option maxRecDepth 100000 in
theorem aw_once : (onceR [sqR 0 0, sqR 4 0]).1.length = 7 ∧ (onceR [sqR 0 0, sqR 4 0]).2 = 0 ∧ lenE (onceR [sqR 0 0, sqR 4 0]).1 = 28 := by decide +kernel
set_option maxRecDepth 100000 in
theorem aw_share : (shareR (sqR 0 0) (sqR 4 0)).length = 1 := by decide +kernel
set_option maxRecDepth 100000 in
theorem aw_steps : stepsI ((1, 0), (2, 0)) = 1 := by decide +kernel
end Go.Proofs.YtkpnffokjpgalaaGreat
