/- Layer 16: meets; NofitTouch. -/
import Derived.Test.YtbienlhofkfdpaaNofP6
import Derived.Test.YtbienlhofkfdpaaSeg2
import Derived.Test.YtbienlhofkfdpaaNof18
import Derived.Deep.RegionHeld3
namespace Go.Proofs.Ytbienlhofkfdpaa
open Go.RowKit Go.Sort
set_option linter.unusedVariables false
set_option linter.unusedSimpArgs false
attribute [local go_sem ↓] Go.wp_at_zero Go.wp_at_succ

set_option maxRecDepth 100000 in
set_option maxHeartbeats 16000000 in
theorem meets_any (A B : Option Addr) (c d : Nat) (a b : List Pt) (w : World) (h : IsVecs w A c a) (h2 : IsVecs w B d b) (ha : a.length ≤ 100000) (hb : b.length ≤ 100000) (hb2 : 2 ≤ b.length) :
    Calls Try.prog 46 #[.slice A a.length c, .slice B b.length d] w fun e w' => ∃ t, e = .returned (.bool t) ∧ (HitV a b → t = true) ∧ SinceOf w w' := by
  have H := Lib.hid (And.intro h h2)
  have WA := fun W (hW : SinceOf w W) px py => refWhere_any A c a px py W (h.of hW) ha
  have WB := fun W (hW : SinceOf w W) px py => refWhere_any B d b px py W (h2.of hW) hb
  have HW := Lib.hid (And.intro WA WB)
  clear h h2 WA WB
  go_enter Try.func46, Try.ntmps46
  go_wp2_with fail
  go_loopg [5] a.length (fun gas s5 wr => ∃ i : Nat, s5 = .int .i64 i ∧ i ≤ a.length ∧ a.length - i ≤ gas ∧ (∀ p ∈ a.take i, whereM b p = 0) ∧ SinceOf w wr)
  case atStart => exact ⟨0, rfl, Nat.zero_le _, by omega, fun p hp => by simp at hp, by (repeat (first | (with_reducible exact SinceOf.refl _) | (with_reducible assumption) | (with_reducible refine SinceOf.alloc ?_ _) | (with_reducible refine SinceOf.drew ?_) | (with_reducible refine SinceOf.drewN ?_ _) | (with_reducible refine SinceOf.later ?_ _) | (with_reducible refine SinceOf.further ?_ _) | (with_reducible refine SinceOf.setCell ?_ (by first | exact Nat.le_refl _ | (simp; done) | omega | (simp; omega)) _)))⟩
  case round =>
    obtain ⟨i, rfl, hi, hgas, hall, ⟨z, rfl⟩⟩ := hrel
    by_cases hlt : i < a.length
    · obtain ⟨g, off, rfl, hr⟩ := (H.out.1.of (w' := z.wd) (by (repeat (first | (with_reducible exact SinceOf.refl _) | (with_reducible assumption) | (with_reducible refine SinceOf.alloc ?_ _) | (with_reducible refine SinceOf.drew ?_) | (with_reducible refine SinceOf.drewN ?_ _) | (with_reducible refine SinceOf.later ?_ _) | (with_reducible refine SinceOf.further ?_ _) | (with_reducible refine SinceOf.setCell ?_ (by first | exact Nat.le_refl _ | (simp; done) | omega | (simp; omega)) _))))).at_ (by omega)
      have hO := hr.there
      have a0 := hr.v0 i hlt
      have a1 := hr.v1 i hlt
      have hnx : ∀ (q : whereM b a[i] = 0), ∀ p ∈ a.take (i + 1), whereM b p = 0 := fun q p hp => by
        rw [List.take_succ_eq_append_getElem hlt] at hp
        rcases List.mem_append.1 hp with e | e
        · exact hall p e
        · rw [List.mem_singleton.1 e]; exact q
      obtain ⟨p, hp⟩ : ∃ p, p = a[i] := ⟨_, rfl⟩
      rw [← hp] at a0 a1 hnx
      have W1 := fun W (hW : SinceOf w W) => HW.out.2 W hW p.1 p.2
      have hpe : (p.1, p.2) = p := rfl
      rw [hpe] at W1
      have HN := Lib.hid hnx
      clear hnx hall hr hp hpe
      obtain ⟨t, ht⟩ : ∃ t, t = whereM b p := ⟨_, rfl⟩
      rw [← ht] at W1 HN
      clear ht
      obtain ⟨px, py⟩ := p
      simp only at a0 a1 W1
      by_cases h0 : t = 0
      · have HN2 := Lib.hid (HN.out h0)
        subst h0
        go_wp2_with fail
        refine (W1 _ (by (repeat (first | (with_reducible exact SinceOf.refl _) | (with_reducible assumption) | (with_reducible refine SinceOf.alloc ?_ _) | (with_reducible refine SinceOf.drew ?_) | (with_reducible refine SinceOf.drewN ?_ _) | (with_reducible refine SinceOf.later ?_ _) | (with_reducible refine SinceOf.further ?_ _) | (with_reducible refine SinceOf.setCell ?_ (by first | exact Nat.le_refl _ | (simp; done) | omega | (simp; omega)) _))))).calls.mono ?_
        rintro e _ ⟨rfl, x1, rfl⟩
        go_wp2_with fail
        go_roundg (a.length - (i + 1))
        case measure => omega
        case rel => exact ⟨i + 1, by go_num, hlt, Nat.le_refl _, HN2.out, by (repeat (first | (with_reducible exact SinceOf.refl _) | (with_reducible assumption) | (with_reducible refine SinceOf.alloc ?_ _) | (with_reducible refine SinceOf.drew ?_) | (with_reducible refine SinceOf.drewN ?_ _) | (with_reducible refine SinceOf.later ?_ _) | (with_reducible refine SinceOf.further ?_ _) | (with_reducible refine SinceOf.setCell ?_ (by first | exact Nat.le_refl _ | (simp; done) | omega | (simp; omega)) _)))⟩
      · have g0 : (t != 0) = true := by simpa using h0
        clear h0 HN
        go_wp2_with fail
        refine (W1 _ (by (repeat (first | (with_reducible exact SinceOf.refl _) | (with_reducible assumption) | (with_reducible refine SinceOf.alloc ?_ _) | (with_reducible refine SinceOf.drew ?_) | (with_reducible refine SinceOf.drewN ?_ _) | (with_reducible refine SinceOf.later ?_ _) | (with_reducible refine SinceOf.further ?_ _) | (with_reducible refine SinceOf.setCell ?_ (by first | exact Nat.le_refl _ | (simp; done) | omega | (simp; omega)) _))))).calls.mono ?_
        rintro e _ ⟨rfl, x1, rfl⟩
        go_wp2_with fail
        go_returns
        exact ⟨true, rfl, fun _ => rfl, by (repeat (first | (with_reducible exact SinceOf.refl _) | (with_reducible assumption) | (with_reducible refine SinceOf.alloc ?_ _) | (with_reducible refine SinceOf.drew ?_) | (with_reducible refine SinceOf.drewN ?_ _) | (with_reducible refine SinceOf.later ?_ _) | (with_reducible refine SinceOf.further ?_ _) | (with_reducible refine SinceOf.setCell ?_ (by first | exact Nat.le_refl _ | (simp; done) | omega | (simp; omega)) _)))⟩
    · have hil : i = a.length := by omega
      subst hil
      rw [List.take_length] at hall
      have HA := Lib.hid hall
      have EA := fun W (hW : SinceOf z.wd W) => refEdges_any A c a W (H.out.1.of (SinceOf.trans ⟨z, rfl⟩ hW)) ha
      have EB := fun W (hW : SinceOf z.wd W) => refEdges_any B d b W (H.out.2.of (SinceOf.trans ⟨z, rfl⟩ hW)) hb
      have hea := edgesV_len_le a
      have heb := edgesV_len (r := b) (by omega)
      obtain ⟨L, hL⟩ : ∃ L, L = edgesV a := ⟨_, rfl⟩
      obtain ⟨M, hM⟩ : ∃ M, M = edgesV b := ⟨_, rfl⟩
      rw [← hL] at EA hea
      rw [← hM] at EB heb
      have HML := Lib.hid heb
      rw [heb] at EB
      clear hall hL hM heb
      go_wp2_with fail
      refine (EA _ (by (repeat (first | (with_reducible exact SinceOf.refl _) | (with_reducible assumption) | (with_reducible refine SinceOf.alloc ?_ _) | (with_reducible refine SinceOf.drew ?_) | (with_reducible refine SinceOf.drewN ?_ _) | (with_reducible refine SinceOf.later ?_ _) | (with_reducible refine SinceOf.further ?_ _) | (with_reducible refine SinceOf.setCell ?_ (by first | exact Nat.le_refl _ | (simp; done) | omega | (simp; omega)) _))))).mono ?_
      rintro e _ ⟨A3, c3, rfl, ho3, ⟨x3, rfl⟩⟩
      have HL3 := Lib.hid (ho3.isRow encE_len)
      clear ho3 EA
      go_wp2_with fail
      refine (EB _ (by (repeat (first | (with_reducible exact SinceOf.refl _) | (with_reducible assumption) | (with_reducible refine SinceOf.alloc ?_ _) | (with_reducible refine SinceOf.drew ?_) | (with_reducible refine SinceOf.drewN ?_ _) | (with_reducible refine SinceOf.later ?_ _) | (with_reducible refine SinceOf.further ?_ _) | (with_reducible refine SinceOf.setCell ?_ (by first | exact Nat.le_refl _ | (simp; done) | omega | (simp; omega)) _))))).mono ?_
      rintro e _ ⟨A4, c4, rfl, ho4, ⟨x4, rfl⟩⟩
      have HL4 := Lib.hid (ho4.isRow encE_len)
      clear ho4 EB
      go_wp2_with fail
      go_loopg [8] b.length (fun gas s8 wr => ∃ i : Nat, s8 = .int .i64 i ∧ i ≤ b.length ∧ b.length - i ≤ gas ∧ (∀ p ∈ b.take i, whereM a p = 0) ∧ SinceOf x4.wd wr)
      case atStart => exact ⟨0, rfl, Nat.zero_le _, by omega, fun p hp => by simp at hp, by (repeat (first | (with_reducible exact SinceOf.refl _) | (with_reducible assumption) | (with_reducible refine SinceOf.alloc ?_ _) | (with_reducible refine SinceOf.drew ?_) | (with_reducible refine SinceOf.drewN ?_ _) | (with_reducible refine SinceOf.later ?_ _) | (with_reducible refine SinceOf.further ?_ _) | (with_reducible refine SinceOf.setCell ?_ (by first | exact Nat.le_refl _ | (simp; done) | omega | (simp; omega)) _)))⟩
      case round =>
        obtain ⟨j, rfl, hj, hgas2, hall2, ⟨v, rfl⟩⟩ := hrel
        by_cases hlt2 : j < b.length
        · obtain ⟨g, off, rfl, hr⟩ := (H.out.2.of (w' := v.wd) (by (repeat (first | (with_reducible exact SinceOf.refl _) | (with_reducible assumption) | (with_reducible refine SinceOf.alloc ?_ _) | (with_reducible refine SinceOf.drew ?_) | (with_reducible refine SinceOf.drewN ?_ _) | (with_reducible refine SinceOf.later ?_ _) | (with_reducible refine SinceOf.further ?_ _) | (with_reducible refine SinceOf.setCell ?_ (by first | exact Nat.le_refl _ | (simp; done) | omega | (simp; omega)) _))))).at_ (by omega)
          have hO := hr.there
          have a0 := hr.v0 j hlt2
          have a1 := hr.v1 j hlt2
          have hnx : ∀ (q : whereM a b[j] = 0), ∀ p ∈ b.take (j + 1), whereM a p = 0 := fun q p hp => by
            rw [List.take_succ_eq_append_getElem hlt2] at hp
            rcases List.mem_append.1 hp with e | e
            · exact hall2 p e
            · rw [List.mem_singleton.1 e]; exact q
          obtain ⟨p, hp⟩ : ∃ p, p = b[j] := ⟨_, rfl⟩
          rw [← hp] at a0 a1 hnx
          have W1 := fun W (hW : SinceOf w W) => HW.out.1 W hW p.1 p.2
          have hpe : (p.1, p.2) = p := rfl
          rw [hpe] at W1
          have HN := Lib.hid hnx
          clear hnx hall2 hr hp hpe
          obtain ⟨t, ht⟩ : ∃ t, t = whereM a p := ⟨_, rfl⟩
          rw [← ht] at W1 HN
          clear ht
          obtain ⟨px, py⟩ := p
          simp only at a0 a1 W1
          by_cases h0 : t = 0
          · have HN2 := Lib.hid (HN.out h0)
            subst h0
            go_wp2_with fail
            refine (W1 _ (by (repeat (first | (with_reducible exact SinceOf.refl _) | (with_reducible assumption) | (with_reducible refine SinceOf.alloc ?_ _) | (with_reducible refine SinceOf.drew ?_) | (with_reducible refine SinceOf.drewN ?_ _) | (with_reducible refine SinceOf.later ?_ _) | (with_reducible refine SinceOf.further ?_ _) | (with_reducible refine SinceOf.setCell ?_ (by first | exact Nat.le_refl _ | (simp; done) | omega | (simp; omega)) _))))).calls.mono ?_
            rintro e _ ⟨rfl, x5, rfl⟩
            clear W1 a0 a1
            go_wp2_with fail
            go_loopg [9] L.length (fun gas s9 wr => ∃ k : Nat, s9 = .int .i64 k ∧ k ≤ L.length ∧ L.length - k ≤ gas ∧ SinceOf v.wd wr)
            case atStart => exact ⟨0, rfl, Nat.zero_le _, by omega, by (repeat (first | (with_reducible exact SinceOf.refl _) | (with_reducible assumption) | (with_reducible refine SinceOf.alloc ?_ _) | (with_reducible refine SinceOf.drew ?_) | (with_reducible refine SinceOf.drewN ?_ _) | (with_reducible refine SinceOf.later ?_ _) | (with_reducible refine SinceOf.further ?_ _) | (with_reducible refine SinceOf.setCell ?_ (by first | exact Nat.le_refl _ | (simp; done) | omega | (simp; omega)) _)))⟩
            case round =>
              obtain ⟨k, rfl, hk, hgas3, ⟨u, rfl⟩⟩ := hrel
              by_cases hlt3 : k < L.length
              · obtain ⟨g3, off3, hA3, hr3⟩ := (HL3.out.of (w' := u.wd) (by (repeat (first | (with_reducible exact SinceOf.refl _) | (with_reducible assumption) | (with_reducible refine SinceOf.alloc ?_ _) | (with_reducible refine SinceOf.drew ?_) | (with_reducible refine SinceOf.drewN ?_ _) | (with_reducible refine SinceOf.later ?_ _) | (with_reducible refine SinceOf.further ?_ _) | (with_reducible refine SinceOf.setCell ?_ (by first | exact Nat.le_refl _ | (simp; done) | omega | (simp; omega)) _))))).at_ (show 0 < L.length by omega)
                subst hA3
                have hO3 := hr3.there
                obtain ⟨g4, off4, hA4, hr4⟩ := (HL4.out.of (w' := u.wd) (by (repeat (first | (with_reducible exact SinceOf.refl _) | (with_reducible assumption) | (with_reducible refine SinceOf.alloc ?_ _) | (with_reducible refine SinceOf.drew ?_) | (with_reducible refine SinceOf.drewN ?_ _) | (with_reducible refine SinceOf.later ?_ _) | (with_reducible refine SinceOf.further ?_ _) | (with_reducible refine SinceOf.setCell ?_ (by first | exact Nat.le_refl _ | (simp; done) | omega | (simp; omega)) _))))).at_ (show 0 < M.length by have := HML.out; omega)
                subst hA4
                have hO4 := hr4.there
                have hj2 : j < M.length := by have := HML.out; omega
                have s0 := hr3.e0 k hlt3
                have s1 := hr3.e1 k hlt3
                have s2 := hr3.e2 k hlt3
                have s3 := hr3.e3 k hlt3
                have t0 := hr4.e0 j hj2
                have t1 := hr4.e1 j hj2
                have t2 := hr4.e2 j hj2
                have t3 := hr4.e3 j hj2
                have MT := refMeet_any L[k] M[j]
                generalize meetI L[k] M[j] = mi at *
                generalize L[k] = sk at *
                generalize M[j] = sj at *
                obtain ⟨⟨k1, k2⟩, k3, k4⟩ := sk
                obtain ⟨⟨j1, j2⟩, j3, j4⟩ := sj
                simp only at s0 s1 s2 s3 t0 t1 t2 t3 MT
                clear hr3 hr4 hj2
                by_cases hm : mi = 0
                · subst hm
                  go_wp2_with fail
                  refine region_since (by kernel_rfl) (by kernel_rfl) ?_
                  repeat (go_big_quiet_step ((with_reducible refine Yields.since (MT _))))
                  refine wpQuiet_nil ?_
                  rintro _ ⟨x6, rfl⟩
                  go_wp2_with fail
                  go_roundg (L.length - (k + 1))
                  case measure => omega
                  case rel => exact ⟨k + 1, by go_num, hlt3, Nat.le_refl _, by (repeat (first | (with_reducible exact SinceOf.refl _) | (with_reducible assumption) | (with_reducible refine SinceOf.alloc ?_ _) | (with_reducible refine SinceOf.drew ?_) | (with_reducible refine SinceOf.drewN ?_ _) | (with_reducible refine SinceOf.later ?_ _) | (with_reducible refine SinceOf.further ?_ _) | (with_reducible refine SinceOf.setCell ?_ (by first | exact Nat.le_refl _ | (simp; done) | omega | (simp; omega)) _)))⟩
                · have g1 : (mi != 0) = true := by simpa using hm
                  clear hm
                  go_wp2_with fail
                  refine region_since (by kernel_rfl) (by kernel_rfl) ?_
                  repeat (go_big_quiet_step ((with_reducible refine Yields.since (MT _))))
                  refine wpQuiet_nil ?_
                  rintro _ ⟨x6, rfl⟩
                  go_wp2_with fail
                  go_returns
                  exact ⟨true, rfl, fun _ => rfl, by (repeat (first | (with_reducible exact SinceOf.refl _) | (with_reducible assumption) | (with_reducible refine SinceOf.alloc ?_ _) | (with_reducible refine SinceOf.drew ?_) | (with_reducible refine SinceOf.drewN ?_ _) | (with_reducible refine SinceOf.later ?_ _) | (with_reducible refine SinceOf.further ?_ _) | (with_reducible refine SinceOf.setCell ?_ (by first | exact Nat.le_refl _ | (simp; done) | omega | (simp; omega)) _)))⟩
              · go_wp2_with fail
                go_roundg (b.length - (j + 1))
                case measure => omega
                case rel => exact ⟨j + 1, by go_num, hlt2, Nat.le_refl _, HN2.out, by (repeat (first | (with_reducible exact SinceOf.refl _) | (with_reducible assumption) | (with_reducible refine SinceOf.alloc ?_ _) | (with_reducible refine SinceOf.drew ?_) | (with_reducible refine SinceOf.drewN ?_ _) | (with_reducible refine SinceOf.later ?_ _) | (with_reducible refine SinceOf.further ?_ _) | (with_reducible refine SinceOf.setCell ?_ (by first | exact Nat.le_refl _ | (simp; done) | omega | (simp; omega)) _)))⟩
          · have g0 : (t != 0) = true := by simpa using h0
            clear h0 HN
            go_wp2_with fail
            refine (W1 _ (by (repeat (first | (with_reducible exact SinceOf.refl _) | (with_reducible assumption) | (with_reducible refine SinceOf.alloc ?_ _) | (with_reducible refine SinceOf.drew ?_) | (with_reducible refine SinceOf.drewN ?_ _) | (with_reducible refine SinceOf.later ?_ _) | (with_reducible refine SinceOf.further ?_ _) | (with_reducible refine SinceOf.setCell ?_ (by first | exact Nat.le_refl _ | (simp; done) | omega | (simp; omega)) _))))).calls.mono ?_
            rintro e _ ⟨rfl, x1, rfl⟩
            go_wp2_with fail
            go_returns
            exact ⟨true, rfl, fun _ => rfl, by (repeat (first | (with_reducible exact SinceOf.refl _) | (with_reducible assumption) | (with_reducible refine SinceOf.alloc ?_ _) | (with_reducible refine SinceOf.drew ?_) | (with_reducible refine SinceOf.drewN ?_ _) | (with_reducible refine SinceOf.later ?_ _) | (with_reducible refine SinceOf.further ?_ _) | (with_reducible refine SinceOf.setCell ?_ (by first | exact Nat.le_refl _ | (simp; done) | omega | (simp; omega)) _)))⟩
        · have hjl : j = b.length := by omega
          subst hjl
          rw [List.take_length] at hall2
          have HB := Lib.hid hall2
          clear hall2
          go_wp2_with fail
          go_returns
          exact ⟨false, rfl, fun q => by
            rcases q with ⟨p, hp, q⟩ | ⟨p, hp, q⟩
            · exact absurd (HA.out p hp) q
            · exact absurd (HB.out p hp) q, by (repeat (first | (with_reducible exact SinceOf.refl _) | (with_reducible assumption) | (with_reducible refine SinceOf.alloc ?_ _) | (with_reducible refine SinceOf.drew ?_) | (with_reducible refine SinceOf.drewN ?_ _) | (with_reducible refine SinceOf.later ?_ _) | (with_reducible refine SinceOf.further ?_ _) | (with_reducible refine SinceOf.setCell ?_ (by first | exact Nat.le_refl _ | (simp; done) | omega | (simp; omega)) _)))⟩
theorem mem_vxsX {X : List RgR} {r : List Pt} : r ∈ vxs X ↔ ∃ x ∈ X, x.xs = r := by unfold vxs; rw [List.mem_map]
set_option maxRecDepth 100000 in
set_option maxHeartbeats 32000000 in
theorem nofitTouch_any (A B : Option Addr) (c d : Nat) (X Y : List RgR) (vx vy : Int) (w : World) (h : IsRings w A c X) (h2 : IsRings w B d Y) : Yields Try.prog 10 #[.slice A X.length c, .slice B Y.length d, .agg #[.int .i64 vx, .int .i64 vy]] w (.bool true) := by
  apply Yields.ret
  have W1 := refWithin_any vx vy 1000
  have H := Lib.hid (And.intro h h2)
  clear h h2
  go_enter Try.func10, Try.ntmps10
  go_wp2_with fail
  refine (awake16_any _).mono ?_
  rintro e _ ⟨rfl, x1, rfl⟩
  go_wp2_with fail
  refine (fewL_any A c X _ (H.out.1.of (by (repeat (first | (with_reducible exact SinceOf.refl _) | (with_reducible assumption) | (with_reducible refine SinceOf.alloc ?_ _) | (with_reducible refine SinceOf.drew ?_) | (with_reducible refine SinceOf.drewN ?_ _) | (with_reducible refine SinceOf.later ?_ _) | (with_reducible refine SinceOf.further ?_ _) | (with_reducible refine SinceOf.setCell ?_ (by first | exact Nat.le_refl _ | (simp; done) | omega | (simp; omega)) _)))))).mono ?_
  rintro e _ ⟨b1, rfl, hb1, ⟨x2, rfl⟩⟩
  cases b1
  · clear hb1
    go_wp2_with fail
    go_returns
    exact ⟨rfl, by (repeat (first | (with_reducible exact SinceOf.refl _) | (with_reducible assumption) | (with_reducible refine SinceOf.alloc ?_ _) | (with_reducible refine SinceOf.drew ?_) | (with_reducible refine SinceOf.drewN ?_ _) | (with_reducible refine SinceOf.later ?_ _) | (with_reducible refine SinceOf.further ?_ _) | (with_reducible refine SinceOf.setCell ?_ (by first | exact Nat.le_refl _ | (simp; done) | omega | (simp; omega)) _)))⟩
  have HF1 := Lib.hid (hb1 rfl)
  clear hb1
  go_wp2_with fail
  refine (fewL_any B d Y _ (H.out.2.of (by (repeat (first | (with_reducible exact SinceOf.refl _) | (with_reducible assumption) | (with_reducible refine SinceOf.alloc ?_ _) | (with_reducible refine SinceOf.drew ?_) | (with_reducible refine SinceOf.drewN ?_ _) | (with_reducible refine SinceOf.later ?_ _) | (with_reducible refine SinceOf.further ?_ _) | (with_reducible refine SinceOf.setCell ?_ (by first | exact Nat.le_refl _ | (simp; done) | omega | (simp; omega)) _)))))).mono ?_
  rintro e _ ⟨b2, rfl, hb2, ⟨x3, rfl⟩⟩
  cases b2
  · clear hb2
    go_wp2_with fail
    go_returns
    exact ⟨rfl, by (repeat (first | (with_reducible exact SinceOf.refl _) | (with_reducible assumption) | (with_reducible refine SinceOf.alloc ?_ _) | (with_reducible refine SinceOf.drew ?_) | (with_reducible refine SinceOf.drewN ?_ _) | (with_reducible refine SinceOf.later ?_ _) | (with_reducible refine SinceOf.further ?_ _) | (with_reducible refine SinceOf.setCell ?_ (by first | exact Nat.le_refl _ | (simp; done) | omega | (simp; omega)) _)))⟩
  have HF2 := Lib.hid (hb2 rfl)
  clear hb2
  go_wp2_with fail
  refine (nearL_any A c X _ (H.out.1.of (by (repeat (first | (with_reducible exact SinceOf.refl _) | (with_reducible assumption) | (with_reducible refine SinceOf.alloc ?_ _) | (with_reducible refine SinceOf.drew ?_) | (with_reducible refine SinceOf.drewN ?_ _) | (with_reducible refine SinceOf.later ?_ _) | (with_reducible refine SinceOf.further ?_ _) | (with_reducible refine SinceOf.setCell ?_ (by first | exact Nat.le_refl _ | (simp; done) | omega | (simp; omega)) _)))))).mono ?_
  rintro e _ ⟨b3, rfl, hb3, ⟨x4, rfl⟩⟩
  cases b3
  · clear hb3
    go_wp2_with fail
    go_returns
    exact ⟨rfl, by (repeat (first | (with_reducible exact SinceOf.refl _) | (with_reducible assumption) | (with_reducible refine SinceOf.alloc ?_ _) | (with_reducible refine SinceOf.drew ?_) | (with_reducible refine SinceOf.drewN ?_ _) | (with_reducible refine SinceOf.later ?_ _) | (with_reducible refine SinceOf.further ?_ _) | (with_reducible refine SinceOf.setCell ?_ (by first | exact Nat.le_refl _ | (simp; done) | omega | (simp; omega)) _)))⟩
  have HF3 := Lib.hid (hb3 rfl)
  clear hb3
  go_wp2_with fail
  refine (nearL_any B d Y _ (H.out.2.of (by (repeat (first | (with_reducible exact SinceOf.refl _) | (with_reducible assumption) | (with_reducible refine SinceOf.alloc ?_ _) | (with_reducible refine SinceOf.drew ?_) | (with_reducible refine SinceOf.drewN ?_ _) | (with_reducible refine SinceOf.later ?_ _) | (with_reducible refine SinceOf.further ?_ _) | (with_reducible refine SinceOf.setCell ?_ (by first | exact Nat.le_refl _ | (simp; done) | omega | (simp; omega)) _)))))).mono ?_
  rintro e _ ⟨b4, rfl, hb4, ⟨x5, rfl⟩⟩
  cases b4
  · clear hb4
    go_wp2_with fail
    go_returns
    exact ⟨rfl, by (repeat (first | (with_reducible exact SinceOf.refl _) | (with_reducible assumption) | (with_reducible refine SinceOf.alloc ?_ _) | (with_reducible refine SinceOf.drew ?_) | (with_reducible refine SinceOf.drewN ?_ _) | (with_reducible refine SinceOf.later ?_ _) | (with_reducible refine SinceOf.further ?_ _) | (with_reducible refine SinceOf.setCell ?_ (by first | exact Nat.le_refl _ | (simp; done) | omega | (simp; omega)) _)))⟩
  have HF4 := Lib.hid (hb4 rfl)
  clear hb4
  go_wp2_with fail
  cases hw1 : withinB vx vy 1000
  · rw [hw1] at W1
    clear hw1
    refine (W1 _).calls.mono ?_
    rintro e _ ⟨rfl, x6, rfl⟩
    go_wp2_with fail
    go_returns
    exact ⟨rfl, by (repeat (first | (with_reducible exact SinceOf.refl _) | (with_reducible assumption) | (with_reducible refine SinceOf.alloc ?_ _) | (with_reducible refine SinceOf.drew ?_) | (with_reducible refine SinceOf.drewN ?_ _) | (with_reducible refine SinceOf.later ?_ _) | (with_reducible refine SinceOf.further ?_ _) | (with_reducible refine SinceOf.setCell ?_ (by first | exact Nat.le_refl _ | (simp; done) | omega | (simp; omega)) _)))⟩
  rw [hw1] at W1
  have HW1 := Lib.hid (within1000 hw1)
  clear hw1
  refine (W1 _).calls.mono ?_
  rintro e _ ⟨rfl, x6, rfl⟩
  clear W1
  have hXl : X.length ≤ 4 := HF1.out.2
  have hYl : Y.length ≤ 4 := HF2.out.2
  have hX1 : ∀ r ∈ vxs X, (∀ p ∈ r, near 500 p) ∧ r.length ≤ 20 := fun r hr => by
    obtain ⟨x, hx, rfl⟩ := mem_vxsX.1 hr
    exact ⟨HF3.out x hx, HF1.out.1 x hx⟩
  have hY1 : ∀ r ∈ vxs Y, (∀ p ∈ r, near 500 p) ∧ r.length ≤ 20 := fun r hr => by
    obtain ⟨x, hx, rfl⟩ := mem_vxsX.1 hr
    exact ⟨HF4.out x hx, HF2.out.1 x hx⟩
  have HR := Lib.hid (And.intro hX1 hY1)
  have zc0 : x6.wd.cell? ⟨w.heap.size, 0, none⟩ = some (.int .i64 vx) := by simp [go_sem]
  have zc1 : x6.wd.cell? ⟨w.heap.size, 1, none⟩ = some (.int .i64 vy) := by simp [go_sem]
  have zo : Nonempty (Old x6.wd w.heap.size) := inferInstance
  clear hX1 hY1
  go_wp2_with fail
  refine (of_any A B c d X Y _ (H.out.1.of (by (repeat (first | (with_reducible exact SinceOf.refl _) | (with_reducible assumption) | (with_reducible refine SinceOf.alloc ?_ _) | (with_reducible refine SinceOf.drew ?_) | (with_reducible refine SinceOf.drewN ?_ _) | (with_reducible refine SinceOf.later ?_ _) | (with_reducible refine SinceOf.further ?_ _) | (with_reducible refine SinceOf.setCell ?_ (by first | exact Nat.le_refl _ | (simp; done) | omega | (simp; omega)) _))))) (H.out.2.of (by (repeat (first | (with_reducible exact SinceOf.refl _) | (with_reducible assumption) | (with_reducible refine SinceOf.alloc ?_ _) | (with_reducible refine SinceOf.drew ?_) | (with_reducible refine SinceOf.drewN ?_ _) | (with_reducible refine SinceOf.later ?_ _) | (with_reducible refine SinceOf.further ?_ _) | (with_reducible refine SinceOf.setCell ?_ (by first | exact Nat.le_refl _ | (simp; done) | omega | (simp; omega)) _))))) (by omega) (by omega)).mono ?_
  rintro e _ ⟨B1, d1, Z1, e1, rfl, hof1, hl1⟩
  by_cases h0 : e1 = 0
  case neg =>
    have g0 : (e1 != 0) = true := by simpa using h0
    obtain ⟨-, -, -, -, ⟨y1, rfl⟩⟩ := hl1
    clear h0 hof1
    go_wp2_with fail
    go_returns
    exact ⟨rfl, by (repeat (first | (with_reducible exact SinceOf.refl _) | (with_reducible assumption) | (with_reducible refine SinceOf.alloc ?_ _) | (with_reducible refine SinceOf.drew ?_) | (with_reducible refine SinceOf.drewN ?_ _) | (with_reducible refine SinceOf.later ?_ _) | (with_reducible refine SinceOf.further ?_ _) | (with_reducible refine SinceOf.setCell ?_ (by first | exact Nat.le_refl _ | (simp; done) | omega | (simp; omega)) _)))⟩
  subst h0
  obtain ⟨hr1, -, -, hc1, ⟨y1, rfl⟩⟩ := hl1
  have hsh : ∀ x ∈ Z1, x.xs.length ≤ 100000 := fun x hx => by have := hof1.short rfl _ (mem_vxsX.2 ⟨x, hx, rfl⟩); omega
  have T1 := fun W (hW : SinceOf y1.wd W) => touches_any B1 d1 Z1 vx vy W (hr1.of hW) hsh
  have F1 := fun W (hW : SinceOf y1.wd W) => forbidden_any B1 d1 Z1 vx vy W (hr1.of hW) hsh
  have HOF := Lib.hid hof1
  clear hsh hof1 hr1 hc1
  cases htb : touchB (vxs Z1) (vx, vy)
  case false =>
    rw [htb] at T1
    clear htb F1
    go_wp2_with fail
    refine (T1 _ (by (repeat (first | (with_reducible exact SinceOf.refl _) | (with_reducible assumption) | (with_reducible refine SinceOf.alloc ?_ _) | (with_reducible refine SinceOf.drew ?_) | (with_reducible refine SinceOf.drewN ?_ _) | (with_reducible refine SinceOf.later ?_ _) | (with_reducible refine SinceOf.further ?_ _) | (with_reducible refine SinceOf.setCell ?_ (by first | exact Nat.le_refl _ | (simp; done) | omega | (simp; omega)) _))))).calls.mono ?_
    rintro e _ ⟨rfl, y2, rfl⟩
    go_wp2_with fail
    go_returns
    exact ⟨rfl, by (repeat (first | (with_reducible exact SinceOf.refl _) | (with_reducible assumption) | (with_reducible refine SinceOf.alloc ?_ _) | (with_reducible refine SinceOf.drew ?_) | (with_reducible refine SinceOf.drewN ?_ _) | (with_reducible refine SinceOf.later ?_ _) | (with_reducible refine SinceOf.further ?_ _) | (with_reducible refine SinceOf.setCell ?_ (by first | exact Nat.le_refl _ | (simp; done) | omega | (simp; omega)) _)))⟩
  obtain ⟨hfo, r, hr, s, hs, hhit⟩ := HOF.out.hit rfl HW1.out HR.out.1 HR.out.2 htb
  obtain ⟨i0, hi0, hri⟩ : ∃ (i0 : Nat) (hi : i0 < X.length), X[i0].xs = r := by
    obtain ⟨x, hx, e⟩ := mem_vxsX.1 hr
    obtain ⟨i, hi, rfl⟩ := List.getElem_of_mem hx
    exact ⟨i, hi, e⟩
  obtain ⟨k0, hk0, hsk⟩ : ∃ (k0 : Nat) (hk : k0 < Y.length), Y[k0].xs = s := by
    obtain ⟨x, hx, e⟩ := mem_vxsX.1 hs
    obtain ⟨i, hi, rfl⟩ := List.getElem_of_mem hx
    exact ⟨i, hi, e⟩
  rw [← hri, ← hsk] at hhit
  rw [htb] at T1
  simp only at hfo
  rw [hfo] at F1
  have HT := Lib.hid hhit
  clear hr hs hri hsk hhit htb hfo
  go_wp2_with fail
  refine (T1 _ (by (repeat (first | (with_reducible exact SinceOf.refl _) | (with_reducible assumption) | (with_reducible refine SinceOf.alloc ?_ _) | (with_reducible refine SinceOf.drew ?_) | (with_reducible refine SinceOf.drewN ?_ _) | (with_reducible refine SinceOf.later ?_ _) | (with_reducible refine SinceOf.further ?_ _) | (with_reducible refine SinceOf.setCell ?_ (by first | exact Nat.le_refl _ | (simp; done) | omega | (simp; omega)) _))))).calls.mono ?_
  rintro e _ ⟨rfl, y2, rfl⟩
  clear T1
  have yc0 : y2.wd.cell? ⟨w.heap.size, 0, none⟩ = some (.int .i64 vx) := by rw [Later.cell, Since.cell]; exact zc0
  have yc1 : y2.wd.cell? ⟨w.heap.size, 1, none⟩ = some (.int .i64 vy) := by rw [Later.cell, Since.cell]; exact zc1
  have yo : Nonempty (Old y2.wd w.heap.size) := inferInstance
  have HY2 := Lib.hid (show SinceOf w y2.wd by (repeat (first | (with_reducible exact SinceOf.refl _) | (with_reducible assumption) | (with_reducible refine SinceOf.alloc ?_ _) | (with_reducible refine SinceOf.drew ?_) | (with_reducible refine SinceOf.drewN ?_ _) | (with_reducible refine SinceOf.later ?_ _) | (with_reducible refine SinceOf.further ?_ _) | (with_reducible refine SinceOf.setCell ?_ (by first | exact Nat.le_refl _ | (simp; done) | omega | (simp; omega)) _))))
  clear zc0 zc1
  go_wp2_with fail
  go_loopg [9] X.length (fun gas s9 wr => ∃ i : Nat, s9 = .int .i64 i ∧ i ≤ i0 ∧ X.length - i ≤ gas ∧ SinceOf y2.wd wr)
  case atStart => exact ⟨0, rfl, Nat.zero_le _, by omega, by (repeat (first | (with_reducible exact SinceOf.refl _) | (with_reducible assumption) | (with_reducible refine SinceOf.alloc ?_ _) | (with_reducible refine SinceOf.drew ?_) | (with_reducible refine SinceOf.drewN ?_ _) | (with_reducible refine SinceOf.later ?_ _) | (with_reducible refine SinceOf.further ?_ _) | (with_reducible refine SinceOf.setCell ?_ (by first | exact Nat.le_refl _ | (simp; done) | omega | (simp; omega)) _)))⟩
  case round =>
    obtain ⟨i, rfl, hi, hgas, ⟨z, rfl⟩⟩ := hrel
    have hlt : i < X.length := by omega
    go_wp2_with fail
    go_loopg [10] Y.length (fun gas s10 wr => ∃ k : Nat, s10 = .int .i64 k ∧ k ≤ Y.length ∧ (i = i0 → k ≤ k0) ∧ Y.length - k ≤ gas ∧ SinceOf z.wd wr)
    case atStart => exact ⟨0, rfl, Nat.zero_le _, fun _ => Nat.zero_le _, by omega, by (repeat (first | (with_reducible exact SinceOf.refl _) | (with_reducible assumption) | (with_reducible refine SinceOf.alloc ?_ _) | (with_reducible refine SinceOf.drew ?_) | (with_reducible refine SinceOf.drewN ?_ _) | (with_reducible refine SinceOf.later ?_ _) | (with_reducible refine SinceOf.further ?_ _) | (with_reducible refine SinceOf.setCell ?_ (by first | exact Nat.le_refl _ | (simp; done) | omega | (simp; omega)) _)))⟩
    case round =>
      obtain ⟨k, rfl, hk, hik, hgas2, ⟨v, rfl⟩⟩ := hrel
      have hsv : SinceOf w v.wd := SinceOf.trans HY2.out (by (repeat (first | (with_reducible exact SinceOf.refl _) | (with_reducible assumption) | (with_reducible refine SinceOf.alloc ?_ _) | (with_reducible refine SinceOf.drew ?_) | (with_reducible refine SinceOf.drewN ?_ _) | (with_reducible refine SinceOf.later ?_ _) | (with_reducible refine SinceOf.further ?_ _) | (with_reducible refine SinceOf.setCell ?_ (by first | exact Nat.le_refl _ | (simp; done) | omega | (simp; omega)) _))))
      by_cases hlt2 : k < Y.length
      · have hy0 := H.out.2.of hsv
        obtain ⟨g3, off3, hB3, hr3⟩ := hy0.row.at_ (by omega)
        subst hB3
        have hO3 := hr3.there
        have m0 := hr3.g0 k hlt2
        have hx0 := H.out.1.of hsv
        obtain ⟨g4, off4, hA4, hr4⟩ := hx0.row.at_ (by omega)
        subst hA4
        have hO4 := hr4.there
        have n0 := hr4.g0 i hlt
        have hry : IsRing v.wd Y[k] := hy0.all _ (List.getElem_mem hlt2)
        have hrx : IsRing v.wd X[i] := hx0.all _ (List.getElem_mem hlt)
        have hxl : X[i].xs.length ≤ 20 := HF1.out.1 _ (List.getElem_mem hlt)
        have hht : i = i0 ∧ k = k0 → ∀ o, MoveV Y[k].xs (vx, vy) o → o.2 = 0 ∧ HitV X[i].xs o.1 := fun q => by
          obtain ⟨rfl, rfl⟩ := q
          exact HT.out
        obtain ⟨y, hy⟩ : ∃ y, y = Y[k] := ⟨_, rfl⟩
        obtain ⟨x, hx⟩ : ∃ x, x = X[i] := ⟨_, rfl⟩
        rw [← hy] at m0 hry hht
        rw [← hx] at n0 hrx hht hxl
        have MV := fun W (hW : SinceOf v.wd W) => refMove15_any y.A y.c y.xs vx vy W (hry.of hW).row hry.len
        have vc0 : v.wd.cell? ⟨w.heap.size, 0, none⟩ = some (.int .i64 vx) := by rw [Since.cell, Since.cell]; exact yc0
        have vc1 : v.wd.cell? ⟨w.heap.size, 1, none⟩ = some (.int .i64 vy) := by rw [Since.cell, Since.cell]; exact yc1
        have vo : Nonempty (Old v.wd w.heap.size) := inferInstance
        have HQ := Lib.hid (And.intro hht (And.intro hik (And.intro hsv hrx)))
        clear hht hik hsv hrx hry hx hy hr3 hr4 hy0 hx0
        go_wp2_with fail
        go_region_held3 (fun w' => (w'.cell? ⟨w.heap.size, 0, none⟩ = some (.int .i64 vx) ∧ w'.cell? ⟨w.heap.size, 1, none⟩ = some (.int .i64 vy)) ∧ w'.cell? ⟨g3, off3 + k, none⟩ = some (.slice y.A y.xs.length y.c)) ((simp [go_sem, *]))
          ((go_at_call 45; refine (MV _ (by (repeat (first | (with_reducible exact SinceOf.refl _) | (with_reducible assumption) | (with_reducible refine SinceOf.alloc ?_ _) | (with_reducible refine SinceOf.drew ?_) | (with_reducible refine SinceOf.drewN ?_ _) | (with_reducible refine SinceOf.later ?_ _) | (with_reducible refine SinceOf.further ?_ _) | (with_reducible refine SinceOf.setCell ?_ (by first | exact Nat.le_refl _ | (simp; done) | omega | (simp; omega)) _))))).mono ?_; rintro e _ ⟨A5, c5, o, rfl, hmv5, hnr5⟩; obtain ⟨hv5, hc5, hb5, ⟨u5, rfl⟩⟩ := hnr5))
        all_goals
          have n5 : u5.wd.cell? ⟨g4, off4 + i, none⟩ = some (.slice x.A x.xs.length x.c) := by simp [go_sem, n0]
          have uo : Nonempty (Old u5.wd g4) := inferInstance
          have hvu : SinceOf v.wd u5.wd := by (repeat (first | (with_reducible exact SinceOf.refl _) | (with_reducible assumption) | (with_reducible refine SinceOf.alloc ?_ _) | (with_reducible refine SinceOf.drew ?_) | (with_reducible refine SinceOf.drewN ?_ _) | (with_reducible refine SinceOf.later ?_ _) | (with_reducible refine SinceOf.further ?_ _) | (with_reducible refine SinceOf.setCell ?_ (by first | exact Nat.le_refl _ | (simp; done) | omega | (simp; omega)) _)))
          have HU := Lib.hid (And.intro hvu (SinceOf.trans HQ.out.2.2.1 hvu))
          clear hvu m0 n0 vc0 vc1 MV hb5
          by_cases h0 : o.2 = 0
          · have g0 : (o.2 == 0) = true := by simpa using h0
            have hcan := hmv5.canon h0
            have hm2 : 2 ≤ o.1.length := by have := hcan.1.1; omega
            have hm160 : o.1.length ≤ 100000 := by have := hcan.1.2.1; omega
            have MT := fun W (hW : SinceOf u5.wd W) => meets_any x.A A5 x.c c5 x.xs o.1 W (HQ.out.2.2.2.row.of (SinceOf.trans HU.out.1 hW)) (hv5.of hW) (by omega) hm160 hm2
            have hno : ∀ (q : ¬ HitV x.xs o.1), i = i0 → k + 1 ≤ k0 := fun q e => by
              have h1 := HQ.out.2.1 e
              by_cases e2 : k = k0
              · exact absurd (HQ.out.1 ⟨e, e2⟩ o hmv5).2 q
              · omega
            have HN := Lib.hid hno
            clear hno hcan hm2 hm160 h0 hmv5 hv5 hc5
            generalize o.1 = m at *
            generalize o.2 = er at *
            go_wp2_with fail
            refine (MT _ (by (repeat (first | (with_reducible exact SinceOf.refl _) | (with_reducible assumption) | (with_reducible refine SinceOf.alloc ?_ _) | (with_reducible refine SinceOf.drew ?_) | (with_reducible refine SinceOf.drewN ?_ _) | (with_reducible refine SinceOf.later ?_ _) | (with_reducible refine SinceOf.further ?_ _) | (with_reducible refine SinceOf.setCell ?_ (by first | exact Nat.le_refl _ | (simp; done) | omega | (simp; omega)) _))))).mono ?_
            rintro e _ ⟨t, rfl, ht, ⟨u7, rfl⟩⟩
            cases t
            · have HN2 := Lib.hid (HN.out (fun q => by cases ht q))
              clear ht MT
              go_wp2_with fail
              go_roundg (Y.length - (k + 1))
              case measure => omega
              case rel => exact ⟨k + 1, by go_num, hlt2, HN2.out, Nat.le_refl _, by (repeat (first | (with_reducible exact SinceOf.refl _) | (with_reducible assumption) | (with_reducible refine SinceOf.alloc ?_ _) | (with_reducible refine SinceOf.drew ?_) | (with_reducible refine SinceOf.drewN ?_ _) | (with_reducible refine SinceOf.later ?_ _) | (with_reducible refine SinceOf.further ?_ _) | (with_reducible refine SinceOf.setCell ?_ (by first | exact Nat.le_refl _ | (simp; done) | omega | (simp; omega)) _)))⟩
            · clear ht MT
              go_wp2_with fail
              refine (F1 _ (by (repeat (first | (with_reducible exact SinceOf.refl _) | (with_reducible assumption) | (with_reducible refine SinceOf.alloc ?_ _) | (with_reducible refine SinceOf.drew ?_) | (with_reducible refine SinceOf.drewN ?_ _) | (with_reducible refine SinceOf.later ?_ _) | (with_reducible refine SinceOf.further ?_ _) | (with_reducible refine SinceOf.setCell ?_ (by first | exact Nat.le_refl _ | (simp; done) | omega | (simp; omega)) _))))).calls.mono ?_
              rintro e _ ⟨rfl, u8, rfl⟩
              go_wp2_with fail
              go_returns
              exact ⟨rfl, SinceOf.trans HU.out.2 (by (repeat (first | (with_reducible exact SinceOf.refl _) | (with_reducible assumption) | (with_reducible refine SinceOf.alloc ?_ _) | (with_reducible refine SinceOf.drew ?_) | (with_reducible refine SinceOf.drewN ?_ _) | (with_reducible refine SinceOf.later ?_ _) | (with_reducible refine SinceOf.further ?_ _) | (with_reducible refine SinceOf.setCell ?_ (by first | exact Nat.le_refl _ | (simp; done) | omega | (simp; omega)) _))))⟩
          · have g0 : (o.2 == 0) = false := by simpa using h0
            have hno : i = i0 → k + 1 ≤ k0 := fun e => by
              have h1 := HQ.out.2.1 e
              by_cases e2 : k = k0
              · exact absurd (HQ.out.1 ⟨e, e2⟩ o hmv5).1 h0
              · omega
            have HN2 := Lib.hid hno
            clear hno h0 hmv5 hv5 hc5
            generalize o.1 = m at *
            generalize o.2 = er at *
            go_wp2_with fail
            go_roundg (Y.length - (k + 1))
            case measure => omega
            case rel => exact ⟨k + 1, by go_num, hlt2, HN2.out, Nat.le_refl _, by (repeat (first | (with_reducible exact SinceOf.refl _) | (with_reducible assumption) | (with_reducible refine SinceOf.alloc ?_ _) | (with_reducible refine SinceOf.drew ?_) | (with_reducible refine SinceOf.drewN ?_ _) | (with_reducible refine SinceOf.later ?_ _) | (with_reducible refine SinceOf.further ?_ _) | (with_reducible refine SinceOf.setCell ?_ (by first | exact Nat.le_refl _ | (simp; done) | omega | (simp; omega)) _)))⟩
      · have hk0' : i + 1 ≤ i0 := by
          by_cases e : i = i0
          · have := hik e; omega
          · omega
        clear hik
        go_wp2_with fail
        go_roundg (X.length - (i + 1))
        case measure => omega
        case rel => exact ⟨i + 1, by go_num, hk0', Nat.le_refl _, by (repeat (first | (with_reducible exact SinceOf.refl _) | (with_reducible assumption) | (with_reducible refine SinceOf.alloc ?_ _) | (with_reducible refine SinceOf.drew ?_) | (with_reducible refine SinceOf.drewN ?_ _) | (with_reducible refine SinceOf.later ?_ _) | (with_reducible refine SinceOf.further ?_ _) | (with_reducible refine SinceOf.setCell ?_ (by first | exact Nat.le_refl _ | (simp; done) | omega | (simp; omega)) _)))⟩
end Go.Proofs.Ytbienlhofkfdpaa
