/- The law JointRest, walked. -/
import Derived.Test.YtkpnffokjpgalaaGreatKJntU1
import Derived.Test.YtkpnffokjpgalaaGreatKJntT4
import Derived.Test.YtkpnffokjpgalaaGreatKMakeJ
import Derived.Test.YtkpnffokjpgalaaGreatKJnt31
namespace Go.Proofs.YtkpnffokjpgalaaGreat
set_option linter.unusedVariables false
set_option linter.unusedSimpArgs false
open Go.RowKit Go.Sort
attribute [local go_sem ↓] Go.wp_at_zero Go.wp_at_succ

theorem gaps_N {r : List Pt} (hok : okB r = true) {m : Nat} {G : List SegP} (h : gapsL (edgesV r) m = (G, 0)) : ∀ s ∈ G, IsSegN s := fun s hs => by
  have hp := gaps_proper hok h
  unfold properB at hp
  rw [Bool.and_eq_true, List.all_eq_true] at hp
  have := hp.1 s hs
  rw [List.any_eq_true] at this
  obtain ⟨e, he, ha⟩ := this
  exact along_N ((okB_edgeN hok).2 e he) ha
theorem rest_near {r : List Pt} (hok : okB r = true) {m : Nat} {G : List SegP} (h : gapsL (edgesV r) m = (G, 0)) {k : Nat} (hk : k < r.length) : ∀ Q ∈ walkP (tourP (edgesV r) G k) [at0 r k], ∀ p ∈ Q, near4 p := by
  have hl : (edgesV r).length = r.length := edgesV_len (by have := (okB_iff.1 hok).three; omega)
  have hN := (okB_edgeN hok).2
  refine walk_near _ _ (fun e he => ?_) (fun p hp => ?_)
  · unfold tourP at he
    rw [List.mem_map] at he
    obtain ⟨i, hi, rfl⟩ := he
    have hq : (k + i) % (edgesV r).length < (edgesV r).length := Nat.mod_lt _ (by omega)
    unfold tourAt
    rw [edgeAt_get hq]
    exact ⟨hN _ (List.getElem_mem hq), (found_good hok h hq).2⟩
  · rw [List.mem_singleton.1 hp]
    have := (hN _ (List.getElem_mem (show k < (edgesV r).length by omega))).2.1
    rw [edgesV_at (by have := (okB_iff.1 hok).three; omega) hk] at this
    exact this
set_option maxRecDepth 100000 in
set_option maxHeartbeats 32000000 in
theorem jointRest_any (A : Option Addr) (c : Nat) (r : List (Int × Int)) (nn aa : Int) (hnn : 0 ≤ nn ∧ nn ≤ 255) (haa : 0 ≤ aa ∧ aa ≤ 255) (w : World) (h : IsVecs w A c r) (hlen : r.length < 4611686018427387904) :
    Yields Tryz.prog 7 #[.slice A r.length c, .int .u8 nn, .int .u8 aa] w (.bool true) := by
  apply Yields.ret
  have AW := awake46_any
  have FW := few_any A c r
  have V := fun W (hW : SinceOf w W) => refRingValid_any A c r W (h.of hW) hlen
  generalize decide (r.length ≤ 60) = fw at FW
  obtain ⟨ok, hok⟩ : ∃ b, b = okB r := ⟨_, rfl⟩
  rw [← hok] at V
  have HK := Lib.hid (And.intro hok h)
  clear hok h
  by_cases hgo : fw = true ∧ ok = true
  · obtain ⟨rfl, rfl⟩ := hgo
    have hk := okB_iff.1 HK.out.1.symm
    have h3 := hk.three
    have h40 := hk.most
    clear hk
    obtain ⟨m, hm⟩ : ∃ m : Nat, (m : Int) = nn % 4 := ⟨(nn % 4).toNat, by omega⟩
    obtain ⟨k, hk⟩ : ∃ k : Nat, (k : Int) = aa % r.length := ⟨(aa % r.length).toNat, by have := Int.emod_nonneg aa (show (r.length : Int) ≠ 0 by omega); omega⟩
    have hm4 : m < 4 := by omega
    have hkr : k < r.length := by have := Int.emod_lt_of_pos aa (show (0 : Int) < r.length by omega); omega
    have t1 : Int.tmod nn 4 = (m : Int) := by rw [Int.tmod_eq_emod_of_nonneg hnn.1]; exact hm.symm
    have t2 : Int.tmod aa (r.length : Int) = (k : Int) := by rw [Int.tmod_eq_emod_of_nonneg haa.1]; exact hk.symm
    have w1 : IntKind.i64.wrap nn = nn := IntWalk.i64_in _ (by omega)
    have w2 : IntKind.i64.wrap aa = aa := IntWalk.i64_in _ (by omega)
    have w3 : IntKind.i64.wrap (m : Int) = m := IntWalk.i64_in _ (by omega)
    have w4 : IntKind.i64.wrap (k : Int) = k := IntWalk.i64_in _ (by omega)
    have hn0 : ¬ (r.length : Int) = 0 := by omega
    have hrn : ¬ r = [] := fun e => by rw [e] at h3; simp at h3
    have hres : gapsR r (m : Int) = gapsL (edgesV r) m := by
      unfold gapsR
      rw [if_pos HK.out.1.symm, if_neg (by omega), Int.toNat_natCast]
    have GP := fun W (hW : SinceOf w W) => gaps_any A c r m W (HK.out.2.of hW) hlen
    rw [hres] at GP
    obtain ⟨⟨G, ge⟩, hG⟩ : ∃ x, x = gapsL (edgesV r) m := ⟨_, rfl⟩
    rw [← hG] at GP
    have HG := Lib.hid hG
    have hm' := hm.symm
    have hk' := hk.symm
    clear hG hres hm hk
    go_enter Tryz.func7, Tryz.ntmps7
    go_wp2_with fail
    refine (AW _).calls.mono ?_
    rintro e _ ⟨rfl, x1, rfl⟩
    clear AW
    go_wp2_with fail
    refine (FW _).calls.mono ?_
    rintro e _ ⟨rfl, x2, rfl⟩
    clear FW
    go_wp2_with fail
    refine (V _ (by (repeat (first | (with_reducible exact SinceOf.refl _) | (with_reducible assumption) | (with_reducible refine SinceOf.alloc ?_ _) | (with_reducible refine SinceOf.drew ?_) | (with_reducible refine SinceOf.drewN ?_ _) | (with_reducible refine SinceOf.later ?_ _) | (with_reducible refine SinceOf.further ?_ _) | (with_reducible refine SinceOf.setCell ?_ (by first | exact Nat.le_refl _ | (simp; done) | omega | (simp; omega)) _))))).calls.mono ?_
    rintro e _ ⟨rfl, x3, rfl⟩
    clear V
    go_wp2_with fail
    refine (GP _ (by (repeat (first | (with_reducible exact SinceOf.refl _) | (with_reducible assumption) | (with_reducible refine SinceOf.alloc ?_ _) | (with_reducible refine SinceOf.drew ?_) | (with_reducible refine SinceOf.drewN ?_ _) | (with_reducible refine SinceOf.later ?_ _) | (with_reducible refine SinceOf.further ?_ _) | (with_reducible refine SinceOf.setCell ?_ (by first | exact Nat.le_refl _ | (simp; done) | omega | (simp; omega)) _))))).mono ?_
    rintro e _ ⟨A4, c4, rfl, o4, l4, ⟨x4, rfl⟩⟩
    clear GP
    have HO := Lib.hid o4
    clear o4
    by_cases hge : ge = 0
    · subst hge
      have hrp := rest_plain HK.out.1.symm HG.out.symm hkr
      have hpr := gaps_proper HK.out.1.symm HG.out.symm
      have hnear := rest_near HK.out.1.symm HG.out.symm hkr
      have hG12 : G.length ≤ 12 := by omega
      have SP := fun W (hW : SinceOf x4.wd W) => split_any A c r (k : Int) A4 c4 G W (HK.out.2.of ((show SinceOf w x4.wd by (repeat (first | (with_reducible exact SinceOf.refl _) | (with_reducible assumption) | (with_reducible refine SinceOf.alloc ?_ _) | (with_reducible refine SinceOf.drew ?_) | (with_reducible refine SinceOf.drewN ?_ _) | (with_reducible refine SinceOf.later ?_ _) | (with_reducible refine SinceOf.further ?_ _) | (with_reducible refine SinceOf.setCell ?_ (by first | exact Nat.le_refl _ | (simp; done) | omega | (simp; omega)) _)))).trans hW)) hlen ((HO.out.isRow encE_len).of hW) hG12
      have PR := fun W (hW : SinceOf x4.wd W) => refProper_any A c r A4 c4 G W (HK.out.2.of ((show SinceOf w x4.wd by (repeat (first | (with_reducible exact SinceOf.refl _) | (with_reducible assumption) | (with_reducible refine SinceOf.alloc ?_ _) | (with_reducible refine SinceOf.drew ?_) | (with_reducible refine SinceOf.drewN ?_ _) | (with_reducible refine SinceOf.later ?_ _) | (with_reducible refine SinceOf.further ?_ _) | (with_reducible refine SinceOf.setCell ?_ (by first | exact Nat.le_refl _ | (simp; done) | omega | (simp; omega)) _)))).trans hW)) HK.out.1.symm ((HO.out.isRow encE_len).of hW) (by omega)
      have LE := fun W (hW : SinceOf x4.wd W) => length_any A4 c4 G W ((HO.out.isRow encE_len).of hW) (by omega)
      have hspl : splitR r (k : Int) G = (walkP (tourP (edgesV r) G k) [at0 r k], 0) := by
        unfold splitR
        rw [if_pos HK.out.1.symm, if_neg (by omega), Int.toNat_natCast, if_pos hpr]
      rw [hspl] at SP
      rw [hpr] at PR
      obtain ⟨L, hL⟩ : ∃ L, L = walkP (tourP (edgesV r) G k) [at0 r k] := ⟨_, rfl⟩
      rw [← hL] at SP hrp hnear
      have hGm := hrp.1
      rw [hGm] at SP PR LE
      rw [hGm]
      have hlG : lenE G = wrap64 (lsum G) := lenE_wrap (gaps_N HK.out.1.symm HG.out.symm)
      obtain ⟨n0, hn0'⟩ : ∃ n0, n0 = lenE G := ⟨_, rfl⟩
      rw [← hn0'] at LE hlG
      have HR := Lib.hid (And.intro hrp (And.intro hnear hlG))
      clear hrp hpr hnear hspl hL hG12 hlG hn0' hGm l4
      have w5 : IntKind.i64.wrap ((m : Int) + 1) = (m : Int) + 1 := IntWalk.i64_in _ (by omega)
      have w6 : IntKind.i64.wrap ((m : Int) + 1 - 1) = (m : Int) := by rw [show (m : Int) + 1 - 1 = m by omega]; exact w3
      have w7 : (m : Int) + 1 - 1 = m := by omega
      go_wp2_with fail
      refine (SP _ (by (repeat (first | (with_reducible exact SinceOf.refl _) | (with_reducible assumption) | (with_reducible refine SinceOf.alloc ?_ _) | (with_reducible refine SinceOf.drew ?_) | (with_reducible refine SinceOf.drewN ?_ _) | (with_reducible refine SinceOf.later ?_ _) | (with_reducible refine SinceOf.further ?_ _) | (with_reducible refine SinceOf.setCell ?_ (by first | exact Nat.le_refl _ | (simp; done) | omega | (simp; omega)) _))))).mono ?_
      rintro e _ ⟨⟨x5, rfl⟩, A5, c5, Y, rfl, v5, r5⟩
      clear SP
      have hYl : Y.length = m + 1 := by rw [← vxs_len, v5]; exact HR.out.1.2.1
      rw [hYl]
      have HY := Lib.hid (And.intro v5 (And.intro r5 hYl))
      clear v5 r5 hYl
      go_wp2_with fail
      refine (PR _ (by (repeat (first | (with_reducible exact SinceOf.refl _) | (with_reducible assumption) | (with_reducible refine SinceOf.alloc ?_ _) | (with_reducible refine SinceOf.drew ?_) | (with_reducible refine SinceOf.drewN ?_ _) | (with_reducible refine SinceOf.later ?_ _) | (with_reducible refine SinceOf.further ?_ _) | (with_reducible refine SinceOf.setCell ?_ (by first | exact Nat.le_refl _ | (simp; done) | omega | (simp; omega)) _))))).calls.mono ?_
      rintro e _ ⟨rfl, x6, rfl⟩
      clear PR
      go_wp2_with fail
      refine (LE _ (by (repeat (first | (with_reducible exact SinceOf.refl _) | (with_reducible assumption) | (with_reducible refine SinceOf.alloc ?_ _) | (with_reducible refine SinceOf.drew ?_) | (with_reducible refine SinceOf.drewN ?_ _) | (with_reducible refine SinceOf.later ?_ _) | (with_reducible refine SinceOf.further ?_ _) | (with_reducible refine SinceOf.setCell ?_ (by first | exact Nat.le_refl _ | (simp; done) | omega | (simp; omega)) _))))).yields.calls.mono ?_
      rintro e _ ⟨rfl, x7, rfl⟩
      clear LE
      go_wp2_with fail
      go_loopg [12, 13] (m + 1) (fun gas s12 s13 wr => ∃ (i : Nat) (n : Int), i ≤ m + 1 ∧ m + 1 - i ≤ gas ∧ s12 = .int .i64 n ∧ n = wrap64 (lsum G + sumP (L.take i)) ∧ s13 = .int .i64 i ∧ SinceOf x7.wd wr)
      case atStart => exact ⟨0, n0, by omega, by omega, rfl, by rw [HR.out.2.2]; simp [sumP], rfl, by (repeat (first | (with_reducible exact SinceOf.refl _) | (with_reducible assumption) | (with_reducible refine SinceOf.alloc ?_ _) | (with_reducible refine SinceOf.drew ?_) | (with_reducible refine SinceOf.drewN ?_ _) | (with_reducible refine SinceOf.later ?_ _) | (with_reducible refine SinceOf.further ?_ _) | (with_reducible refine SinceOf.setCell ?_ (by first | exact Nat.le_refl _ | (simp; done) | omega | (simp; omega)) _)))⟩
      case round =>
        obtain ⟨i, n, hi, hgas, rfl, hn, rfl, ⟨z, rfl⟩⟩ := hrel
        by_cases hlt : i < m + 1
        · have hy0 := HY.out.2.1.of (w' := z.wd) (by (repeat (first | (with_reducible exact SinceOf.refl _) | (with_reducible assumption) | (with_reducible refine SinceOf.alloc ?_ _) | (with_reducible refine SinceOf.drew ?_) | (with_reducible refine SinceOf.drewN ?_ _) | (with_reducible refine SinceOf.later ?_ _) | (with_reducible refine SinceOf.further ?_ _) | (with_reducible refine SinceOf.setCell ?_ (by first | exact Nat.le_refl _ | (simp; done) | omega | (simp; omega)) _))))
          have hiY : i < Y.length := by have := HY.out.2.2; omega
          obtain ⟨g3, off3, rfl, hr3⟩ := hy0.row.at_ (by omega)
          have hO3 := hr3.there
          have m0 := hr3.g0 i hiY
          have hry : IsRing z.wd Y[i] := hy0.all _ (List.getElem_mem hiY)
          have hiL : i < L.length := by have := HR.out.1.2.1; omega
          have hLi : L[i] = Y[i].xs := by have e := HY.out.1; subst e; simp [vxs]
          have h2 : 2 ≤ Y[i].xs.length := by rw [← hLi]; exact HR.out.1.2.2.2.1 _ (List.getElem_mem hiL)
          have hle : lenE (legsP Y[i].xs) = wrap64 (alongK L[i]) := by rw [← hLi]; exact len_legs (HR.out.2.1 _ (List.getElem_mem hiL))
          have hsum : sumP (L.take (i + 1)) = sumP (L.take i) + alongK L[i] := by
            rw [List.take_succ_eq_append_getElem hiL, sumP_append, sumP_cons]
            simp [sumP]
          obtain ⟨y, hy⟩ : ∃ y, y = Y[i] := ⟨_, rfl⟩
          rw [← hy] at m0 hry h2 hle
          have AL := fun W (hW : SinceOf z.wd W) => alongU_any y.A y.c y.xs W (hry.of hW).row hry.len h2
          obtain ⟨t, ht⟩ : ∃ t, t = lenE (legsP y.xs) := ⟨_, rfl⟩
          rw [← ht] at AL hle
          obtain ⟨n2, hn2⟩ : ∃ n2, n2 = wrap64 (lsum G + sumP (L.take (i + 1))) := ⟨_, rfl⟩
          have hw : IntKind.i64.wrap (n + t) = n2 := by
            have e : n2 = wadd n t := by
              rw [hn2, hn, hle, hsum]
              unfold wadd
              rw [wrap_add, Int.add_comm _ (wrap64 _), wrap_add, ← Int.add_assoc, Int.add_comm (alongK _)]
            rw [e]
            exact IntWalk.i64_left _
          have g2 : decide ((y.xs.length : Int) < 2) = false := decide_eq_false (by omega)
          have HN := Lib.hid hn2
          clear hn2 ht hle hsum hn hy hry hr3 hy0 hLi
          have b1 : (0 : Int) ≤ i := by omega
          have b2 : (i : Int) < ((m + 1 : Nat) : Int) := by omega
          have b3 : (i : Int) < (m : Int) + 1 := by omega
          go_wp2_with fail
          refine (AL _ (by (repeat (first | (with_reducible exact SinceOf.refl _) | (with_reducible assumption) | (with_reducible refine SinceOf.alloc ?_ _) | (with_reducible refine SinceOf.drew ?_) | (with_reducible refine SinceOf.drewN ?_ _) | (with_reducible refine SinceOf.later ?_ _) | (with_reducible refine SinceOf.further ?_ _) | (with_reducible refine SinceOf.setCell ?_ (by first | exact Nat.le_refl _ | (simp; done) | omega | (simp; omega)) _))))).yields.calls.mono ?_
          rintro e _ ⟨rfl, z2, rfl⟩
          clear AL
          go_wp2_with fail
          go_roundg (m + 1 - (i + 1))
          case measure => omega
          case rel => exact ⟨i + 1, n2, by omega, by omega, by first | rfl | simp [hw], HN.out, by go_num, by (repeat (first | (with_reducible exact SinceOf.refl _) | (with_reducible assumption) | (with_reducible refine SinceOf.alloc ?_ _) | (with_reducible refine SinceOf.drew ?_) | (with_reducible refine SinceOf.drewN ?_ _) | (with_reducible refine SinceOf.later ?_ _) | (with_reducible refine SinceOf.further ?_ _) | (with_reducible refine SinceOf.setCell ?_ (by first | exact Nat.le_refl _ | (simp; done) | omega | (simp; omega)) _)))⟩
        · obtain rfl : i = m + 1 := by omega
          have hLl := HR.out.1.2.1
          rw [List.take_of_length_le (by omega), Int.add_comm, HR.out.1.2.2.1, ← lenE_wrap (okB_edgeN HK.out.1.symm).2] at hn
          have AR := fun W (hW : SinceOf w W) => aroundU_any A c r W (HK.out.2.of hW) (by omega)
          rw [← hn] at AR
          clear hn
          have hy0 := HY.out.2.1.of (w' := z.wd) (by (repeat (first | (with_reducible exact SinceOf.refl _) | (with_reducible assumption) | (with_reducible refine SinceOf.alloc ?_ _) | (with_reducible refine SinceOf.drew ?_) | (with_reducible refine SinceOf.drewN ?_ _) | (with_reducible refine SinceOf.later ?_ _) | (with_reducible refine SinceOf.further ?_ _) | (with_reducible refine SinceOf.setCell ?_ (by first | exact Nat.le_refl _ | (simp; done) | omega | (simp; omega)) _))))
          have hYl := HY.out.2.2
          obtain ⟨g3, off3, rfl, hr3⟩ := hy0.row.at_ (by omega)
          have hO3 := hr3.there
          have m0 := hr3.g0 0 (by omega)
          have m1 := hr3.g0 m (by omega)
          have r0 : IsRing z.wd (Y[0]'(by omega)) := hy0.all _ (List.getElem_mem _)
          have r1 : IsRing z.wd (Y[m]'(by omega)) := hy0.all _ (List.getElem_mem _)
          have l0 : L[0]'(by omega) = (Y[0]'(by omega)).xs := by have e := HY.out.1; subst e; simp [vxs]
          have l1 : L[m]'(by omega) = (Y[m]'(by omega)).xs := by have e := HY.out.1; subst e; simp [vxs]
          have e0 := HR.out.1.2.2.2.2.2
          rw [List.head?_eq_getElem?, List.getElem?_eq_getElem (by omega), Option.bind_some, l0] at e0
          have e1 := HR.out.1.2.2.2.2.1
          rw [List.getLast?_eq_getElem?, hLl, Nat.add_sub_cancel, List.getElem?_eq_getElem (by omega), Option.bind_some, l1] at e1
          have q0 : 2 ≤ (Y[0]'(by omega)).xs.length := by rw [← l0]; exact HR.out.1.2.2.2.1 _ (List.getElem_mem _)
          have q1 : 2 ≤ (Y[m]'(by omega)).xs.length := by rw [← l1]; exact HR.out.1.2.2.2.1 _ (List.getElem_mem _)
          generalize Y[0]'(by omega) = y0 at *
          generalize Y[m]'(by omega) = y1 at *
          clear l0 l1 hr3 hy0
          obtain ⟨B0, d0, s0⟩ := y0
          obtain ⟨B1, d1, s1⟩ := y1
          simp only at m0 m1 e0 e1 q0 q1
          have rr0 : IsVecs z.wd B0 d0 s0 := r0.row
          have rr1 : IsVecs z.wd B1 d1 s1 := r1.row
          have r1l : s1.length < 4611686018427387904 := r1.len
          clear r0 r1
          obtain ⟨g4, off4, rfl, hr4⟩ := rr0.at_ (show 0 < s0.length by omega)
          obtain ⟨g5, off5, rfl, hr5⟩ := rr1.at_ (show 0 < s1.length by omega)
          obtain ⟨g6, off6, rfl, hr6⟩ := (HK.out.2.of (w' := z.wd) (by (repeat (first | (with_reducible exact SinceOf.refl _) | (with_reducible assumption) | (with_reducible refine SinceOf.alloc ?_ _) | (with_reducible refine SinceOf.drew ?_) | (with_reducible refine SinceOf.drewN ?_ _) | (with_reducible refine SinceOf.later ?_ _) | (with_reducible refine SinceOf.further ?_ _) | (with_reducible refine SinceOf.setCell ?_ (by first | exact Nat.le_refl _ | (simp; done) | omega | (simp; omega)) _))))).at_ (by omega)
          have hO4 := hr4.there
          have hO5 := hr5.there
          have hO6 := hr6.there
          rw [List.head?_eq_getElem?, List.getElem?_eq_getElem (by omega)] at e0
          rw [List.getLast?_eq_getElem?, List.getElem?_eq_getElem (by omega)] at e1
          injection e0 with e0
          injection e1 with e1
          have f0 := hr4.v0 0 (by omega)
          have f1 := hr4.v1 0 (by omega)
          have f2 := hr5.v0 (s1.length - 1) (by omega)
          have f3 := hr5.v1 (s1.length - 1) (by omega)
          have f4 := hr6.v0 k hkr
          have f5 := hr6.v1 k hkr
          rw [e0] at f0 f1
          rw [e1] at f2 f3
          rw [← at0_eq hkr] at f4 f5
          obtain ⟨⟨px, py⟩, hp⟩ : ∃ p, p = at0 r k := ⟨_, rfl⟩
          rw [← hp] at f0 f1 f2 f3 f4 f5
          simp only at f0 f1 f2 f3 f4 f5
          simp only [Nat.zero_mul, Nat.add_zero, Nat.zero_add] at m0 f0 f1
          obtain ⟨v1, hv1⟩ : ∃ v : Nat, v = s1.length - 1 := ⟨_, rfl⟩
          rw [← hv1] at f2 f3
          have u1 : ((s1.length : Int) - 1) = (v1 : Int) := by omega
          have u2 : IntKind.i64.wrap ((s1.length : Int) - 1) = (v1 : Int) := by rw [u1]; exact IntWalk.i64_in _ (by omega)
          have u3 : (v1 : Int) < s1.length := by omega
          have u4 : (0 : Int) ≤ v1 := by omega
          have u5 : (0 : Int) < s0.length := by omega
          have u6 : (k : Int) < r.length := by omega
          have u7 : (0 : Int) ≤ k := by omega
          have u8 : (m : Int) < (m : Int) + 1 := by omega
          have u9 : (0 : Int) ≤ m := by omega
          have u10 : (0 : Int) < (m : Int) + 1 := by omega
          have u11 : (m : Int) < ((m + 1 : Nat) : Int) := by omega
          have u12 : (0 : Int) < ((m + 1 : Nat) : Int) := by omega
          have u13 : v1 < s1.length := by omega
          have u14 : 0 < s0.length := by omega
          clear e0 e1 hr4 hr5 hr6 rr0 rr1 hp hv1 hYl hLl
          go_wp2_with fail
          have AR9 := fun (x : Since z.wd) => AR x.wd (by (repeat (first | (with_reducible exact SinceOf.refl _) | (with_reducible assumption) | (with_reducible refine SinceOf.alloc ?_ _) | (with_reducible refine SinceOf.drew ?_) | (with_reducible refine SinceOf.drewN ?_ _) | (with_reducible refine SinceOf.later ?_ _) | (with_reducible refine SinceOf.further ?_ _) | (with_reducible refine SinceOf.setCell ?_ (by first | exact Nat.le_refl _ | (simp; done) | omega | (simp; omega)) _))))
          clear AR
          refine region_since (by kernel_rfl) (by kernel_rfl) ?_
          repeat (go_big_quiet_step ((with_reducible refine Yields.since (AR9 _))))
          refine wpQuiet_nil ?_
          rintro _ ⟨y9, rfl⟩
          go_wp2_with fail
          go_returns
          exact ⟨by simp, by (repeat (first | (with_reducible exact SinceOf.refl _) | (with_reducible assumption) | (with_reducible refine SinceOf.alloc ?_ _) | (with_reducible refine SinceOf.drew ?_) | (with_reducible refine SinceOf.drewN ?_ _) | (with_reducible refine SinceOf.later ?_ _) | (with_reducible refine SinceOf.further ?_ _) | (with_reducible refine SinceOf.setCell ?_ (by first | exact Nat.le_refl _ | (simp; done) | omega | (simp; omega)) _)))⟩
    · have hG8 : G = [] ∧ ge = 8 := by
        have := HG.out
        unfold gapsL at this
        split at this
        · injection this with _ e; exact absurd e hge
        · injection this with e1 e2; exact ⟨e1, e2⟩
      obtain ⟨rfl, rfl⟩ := hG8
      go_wp2_with fail
      go_returns
      exact ⟨by simp, by (repeat (first | (with_reducible exact SinceOf.refl _) | (with_reducible assumption) | (with_reducible refine SinceOf.alloc ?_ _) | (with_reducible refine SinceOf.drew ?_) | (with_reducible refine SinceOf.drewN ?_ _) | (with_reducible refine SinceOf.later ?_ _) | (with_reducible refine SinceOf.further ?_ _) | (with_reducible refine SinceOf.setCell ?_ (by first | exact Nat.le_refl _ | (simp; done) | omega | (simp; omega)) _)))⟩
  · have hno : fw = false ∨ ok = false := by cases fw <;> cases ok <;> simp at hgo ⊢
    go_enter Tryz.func7, Tryz.ntmps7
    go_wp2_with fail
    refine (AW _).calls.mono ?_
    rintro e _ ⟨rfl, x1, rfl⟩
    clear AW
    go_wp2_with fail
    refine (FW _).calls.mono ?_
    rintro e _ ⟨rfl, x2, rfl⟩
    clear FW
    cases fw
    · go_wp2_with fail
      go_returns
      exact ⟨rfl, by (repeat (first | (with_reducible exact SinceOf.refl _) | (with_reducible assumption) | (with_reducible refine SinceOf.alloc ?_ _) | (with_reducible refine SinceOf.drew ?_) | (with_reducible refine SinceOf.drewN ?_ _) | (with_reducible refine SinceOf.later ?_ _) | (with_reducible refine SinceOf.further ?_ _) | (with_reducible refine SinceOf.setCell ?_ (by first | exact Nat.le_refl _ | (simp; done) | omega | (simp; omega)) _)))⟩
    · obtain rfl : ok = false := by simpa using hno
      go_wp2_with fail
      refine (V _ (by (repeat (first | (with_reducible exact SinceOf.refl _) | (with_reducible assumption) | (with_reducible refine SinceOf.alloc ?_ _) | (with_reducible refine SinceOf.drew ?_) | (with_reducible refine SinceOf.drewN ?_ _) | (with_reducible refine SinceOf.later ?_ _) | (with_reducible refine SinceOf.further ?_ _) | (with_reducible refine SinceOf.setCell ?_ (by first | exact Nat.le_refl _ | (simp; done) | omega | (simp; omega)) _))))).calls.mono ?_
      rintro e _ ⟨rfl, x3, rfl⟩
      go_wp2_with fail
      go_returns
      exact ⟨rfl, by (repeat (first | (with_reducible exact SinceOf.refl _) | (with_reducible assumption) | (with_reducible refine SinceOf.alloc ?_ _) | (with_reducible refine SinceOf.drew ?_) | (with_reducible refine SinceOf.drewN ?_ _) | (with_reducible refine SinceOf.later ?_ _) | (with_reducible refine SinceOf.further ?_ _) | (with_reducible refine SinceOf.setCell ?_ (by first | exact Nat.le_refl _ | (simp; done) | omega | (simp; omega)) _)))⟩
end Go.Proofs.YtkpnffokjpgalaaGreat
