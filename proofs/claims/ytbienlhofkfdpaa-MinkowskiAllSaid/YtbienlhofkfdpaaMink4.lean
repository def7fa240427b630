/- Layer 15: Valid of the reference. -/
import Derived.Test.YtbienlhofkfdpaaMink1
namespace Go.Proofs.Ytbienlhofkfdpaa
open Go.RowKit Go.Sort
set_option linter.unusedVariables false
set_option linter.unusedSimpArgs false
attribute [local go_sem ↓] Go.wp_at_zero Go.wp_at_succ

theorem turn_near {m : Int} (hm : m ≤ 100000) {a b c : Pt} (ha : near m a) (hb : near m b) (hc : near m c) : turnI a.1 a.2 b.1 b.2 c.1 c.2 = cmpi (det a b c) 0 := by
  unfold near at ha hb hc
  rw [turn_exact (by unfold near29; omega) (by unfold near29; omega) (by unfold near29; omega) (by unfold near29; omega) (by unfold near29; omega) (by unfold near29; omega)]
  rfl
theorem cmpi_pos (x : Int) : 0 < cmpi x 0 ↔ 0 < x := by unfold cmpi; split <;> (try split) <;> omega
theorem cmpi_le (x : Int) : cmpi x 0 ≤ 0 ↔ x ≤ 0 := by unfold cmpi; split <;> (try split) <;> omega
theorem cmpi_lt (x : Int) : cmpi x 0 < 0 ↔ x < 0 := by unfold cmpi; split <;> (try split) <;> omega
theorem cmpi_eq0 (x : Int) : cmpi x 0 = 0 ↔ x = 0 := by unfold cmpi; split <;> (try split) <;> omega
theorem valid_no {r : List Pt} (h : ¬ Conv15 r) : validB r = false := by
  cases q : validB r
  · rfl
  · exact absurd (validB_iff.1 q) h
set_option maxRecDepth 100000 in
set_option maxHeartbeats 16000000 in
theorem refValid_any (A : Option Addr) (c : Nat) (r : List (Int × Int)) (w : World) (h : IsVecs w A c r) (hlen : r.length < 4611686018427387904) :
    Gives Try.prog 27 #[.slice A r.length c] w (.bool (validB r)) := by
  apply Gives.ret
  have H := Lib.hid h
  clear h
  generalize hres : validB r = res
  have HR := Lib.hid hres
  clear hres
  by_cases h3 : r.length < 3
  · have g1 : decide ((r.length : Int) < 3) = true := decide_eq_true (by omega)
    rw [validB_small (.inl h3)] at HR
    obtain rfl := HR.out
    clear h3
    go_enter Try.func27, Try.ntmps27
    go_wp2_with fail
    go_returns
    exact ⟨rfl, by (repeat (first | (with_reducible exact LaterOf.refl _) | (with_reducible refine LaterOf.alloc ?_ _) | (with_reducible refine LaterOf.drew ?_) | (with_reducible refine LaterOf.drewN ?_ _) | (with_reducible refine LaterOf.later ?_ _) | (with_reducible refine LaterOf.setCell ?_ (by first | exact Nat.le_refl _ | (simp; done) | omega | (simp; omega)) _)))⟩
  have g1 : decide ((r.length : Int) < 3) = false := decide_eq_false (by omega)
  by_cases h160 : 160 < r.length
  · have g2 : decide (160 < (r.length : Int)) = true := decide_eq_true (by omega)
    rw [validB_small (.inr h160)] at HR
    obtain rfl := HR.out
    clear h3 h160
    go_enter Try.func27, Try.ntmps27
    go_wp2_with fail
    go_returns
    exact ⟨rfl, by (repeat (first | (with_reducible exact LaterOf.refl _) | (with_reducible refine LaterOf.alloc ?_ _) | (with_reducible refine LaterOf.drew ?_) | (with_reducible refine LaterOf.drewN ?_ _) | (with_reducible refine LaterOf.later ?_ _) | (with_reducible refine LaterOf.setCell ?_ (by first | exact Nat.le_refl _ | (simp; done) | omega | (simp; omega)) _)))⟩
  have g2 : decide (160 < (r.length : Int)) = false := decide_eq_false (by omega)
  go_enter Try.func27, Try.ntmps27
  go_wp2_with fail
  clear g1 g2
  go_loopg [4] r.length (fun gas s4 wr => ∃ i : Nat, i ≤ r.length ∧ r.length - i ≤ gas ∧ s4 = .int .i64 i ∧ LaterOf w wr ∧ r.all inV = (r.drop i).all inV)
  case atStart => exact ⟨0, by omega, by omega, rfl, by (repeat (first | (with_reducible exact LaterOf.refl _) | (with_reducible refine LaterOf.alloc ?_ _) | (with_reducible refine LaterOf.drew ?_) | (with_reducible refine LaterOf.drewN ?_ _) | (with_reducible refine LaterOf.later ?_ _) | (with_reducible refine LaterOf.setCell ?_ (by first | exact Nat.le_refl _ | (simp; done) | omega | (simp; omega)) _))), by rw [List.drop_zero]⟩
  case round =>
    obtain ⟨i, hi, hgas, rfl, ⟨z, rfl⟩, hall⟩ := hrel
    by_cases hlt : i < r.length
    · rw [all_dropV _ hlt] at hall
      have hc := (H.out.of (LaterOf.since ⟨z, rfl⟩))
      obtain ⟨g, off, rfl, hr⟩ := hc.at_ (by omega)
      have hO := hr.there
      have k0 := hr.v0 i hlt
      have k1 := hr.v1 i hlt
      have C := refWithin_any r[i].1 r[i].2 8000
      rw [show withinB r[i].1 r[i].2 8000 = inV r[i] from rfl] at C
      generalize inV r[i] = b at *
      generalize r[i].1 = px at *
      generalize r[i].2 = py at *
      clear hc hr
      cases b
      · rw [Bool.false_and] at hall
        rw [validB_far hall] at HR
        obtain rfl := HR.out
        clear hall
        go_wp2_with fail
        refine (C _).calls.mono ?_
        rintro e _ ⟨rfl, x1, rfl⟩
        go_wp2_with fail
        go_returns
        exact ⟨rfl, by (repeat (first | (with_reducible exact LaterOf.refl _) | (with_reducible refine LaterOf.alloc ?_ _) | (with_reducible refine LaterOf.drew ?_) | (with_reducible refine LaterOf.drewN ?_ _) | (with_reducible refine LaterOf.later ?_ _) | (with_reducible refine LaterOf.setCell ?_ (by first | exact Nat.le_refl _ | (simp; done) | omega | (simp; omega)) _)))⟩
      · rw [Bool.true_and] at hall
        have HA := Lib.hid hall
        clear hall
        go_wp2_with fail
        refine (C _).calls.mono ?_
        rintro e _ ⟨rfl, x1, rfl⟩
        go_wp2_with fail
        go_roundg (r.length - (i + 1))
        case measure => omega
        case rel => exact ⟨i + 1, hlt, Nat.le_refl _, by go_num, by (repeat (first | (with_reducible exact LaterOf.refl _) | (with_reducible refine LaterOf.alloc ?_ _) | (with_reducible refine LaterOf.drew ?_) | (with_reducible refine LaterOf.drewN ?_ _) | (with_reducible refine LaterOf.later ?_ _) | (with_reducible refine LaterOf.setCell ?_ (by first | exact Nat.le_refl _ | (simp; done) | omega | (simp; omega)) _))), HA.out⟩
    · obtain rfl : i = r.length := by omega
      rw [List.drop_length] at hall
      have HN := Lib.hid (show ∀ p ∈ r, near 8000 p from fun p hp => inV_near.1 (List.all_eq_true.1 hall p hp))
      clear hall hlt hi hgas
      go_wp2_with fail
      go_loopg [5] r.length (fun gas s5 wr => ∃ i : Nat, i ≤ r.length ∧ r.length - i ≤ gas ∧ s5 = .int .i64 i ∧ LaterOf z.wd wr ∧ ∀ j, j < i → 0 < det (at0 r j) (rv r (j + 1)) (rv r (j + 2)) ∧ ∀ k, k < r.length → 0 ≤ det (at0 r j) (rv r (j + 1)) (at0 r k) ∧ (k ≠ j → at0 r k ≠ at0 r j))
      case atStart => exact ⟨0, by omega, by omega, rfl, by (repeat (first | (with_reducible exact LaterOf.refl _) | (with_reducible refine LaterOf.alloc ?_ _) | (with_reducible refine LaterOf.drew ?_) | (with_reducible refine LaterOf.drewN ?_ _) | (with_reducible refine LaterOf.later ?_ _) | (with_reducible refine LaterOf.setCell ?_ (by first | exact Nat.le_refl _ | (simp; done) | omega | (simp; omega)) _))), fun j hj => by omega⟩
      case round =>
        obtain ⟨i, hi, hgas, rfl, ⟨y, rfl⟩, hall⟩ := hrel
        have HA := Lib.hid hall
        clear hall
        by_cases hlt : i < r.length
        · have hq : (i + 1) % r.length < r.length := Nat.mod_lt _ (by omega)
          have hq2 : (i + 2) % r.length < r.length := Nat.mod_lt _ (by omega)
          have hqt : Int.tmod ((i : Int) + 1) (r.length : Int) = (((i + 1) % r.length : Nat) : Int) := by rw [Int.tmod_eq_emod_of_nonneg (by omega), Int.natCast_emod, Int.natCast_add]; rfl
          have hqt2 : Int.tmod ((i : Int) + 2) (r.length : Int) = (((i + 2) % r.length : Nat) : Int) := by rw [Int.tmod_eq_emod_of_nonneg (by omega), Int.natCast_emod, Int.natCast_add]; rfl
          have hc := (H.out.of (w' := y.wd) (by (repeat (first | (with_reducible exact SinceOf.refl _) | (with_reducible assumption) | (with_reducible refine SinceOf.alloc ?_ _) | (with_reducible refine SinceOf.drew ?_) | (with_reducible refine SinceOf.drewN ?_ _) | (with_reducible refine SinceOf.later ?_ _) | (with_reducible refine SinceOf.further ?_ _) | (with_reducible refine SinceOf.setCell ?_ (by first | exact Nat.le_refl _ | (simp; done) | omega | (simp; omega)) _)))))
          obtain ⟨g, off, rfl, hr⟩ := hc.at_ (by omega)
          have hO := hr.there
          have a0 := hr.v0 i hlt
          have a1 := hr.v1 i hlt
          have b0 := hr.v0 _ hq
          have b1 := hr.v1 _ hq
          have c0 := hr.v0 _ hq2
          have c1 := hr.v1 _ hq2
          have ea : at0 r i = r[i] := at0_eq hlt
          have eb : rv r (i + 1) = r[(i + 1) % r.length] := at0_eq hq
          have ec : rv r (i + 2) = r[(i + 2) % r.length] := at0_eq hq2
          have na := HN.out _ (List.getElem_mem hlt)
          have nb := HN.out _ (List.getElem_mem hq)
          have nc := HN.out _ (List.getElem_mem hq2)
          have T := refTurn_any r[i].1 r[i].2 r[(i + 1) % r.length].1 r[(i + 1) % r.length].2 r[(i + 2) % r.length].1 r[(i + 2) % r.length].2
          rw [turn_near (by omega) na nb nc] at T
          have hcv : Conv15 r → 0 < det r[i] r[(i + 1) % r.length] r[(i + 2) % r.length] := fun h => by
            have := h.2.2.2.left_turn h.1 hlt
            rwa [rv_lt hlt, ea, eb, ec] at this
          have HE := Lib.hid (And.intro ea (And.intro eb (And.intro ec (And.intro na (And.intro nb hcv)))))
          clear ea eb ec na nb nc hcv hr hc
          obtain ⟨dt, hdtd⟩ : ∃ dt, det r[i] r[(i + 1) % r.length] r[(i + 2) % r.length] = dt := ⟨_, rfl⟩
          rw [hdtd] at T HE
          have HDT := Lib.hid hdtd
          clear hdtd
          generalize r[(i + 2) % r.length] = pc at *
          generalize (i + 2) % r.length = q2 at *
          generalize r[(i + 1) % r.length] = pb at *
          generalize (i + 1) % r.length = q at *
          generalize r[i] = pa at *
          obtain ⟨xa, ya⟩ := pa
          obtain ⟨xb, yb⟩ := pb
          obtain ⟨xc, yc⟩ := pc
          simp only at a0 a1 b0 b1 c0 c1 T
          have hn0 : ¬ (r.length : Int) = 0 := by omega
          have hw1 : IntKind.i64.wrap ((i : Int) + 1) = (i : Int) + 1 := IntWalk.i64_in _ (by omega)
          have hw2 : IntKind.i64.wrap ((i : Int) + 2) = (i : Int) + 2 := IntWalk.i64_in _ (by omega)
          go_wp2_with fail
          go_cut [6, 7] (fun s6 s7 wx => ∃ b6 b7 : Nat, s6 = .pointer (some ⟨b6, 0, none⟩) ∧ s7 = .pointer (some ⟨b7, 0, none⟩) ∧ VarV wx b6 (xa, ya) ∧ VarV wx b7 (xb, yb) ∧ LaterOf y.wd wx)
          case first =>
            clear hw2 hqt2 c0 c1
            go_big_region
            all_goals
              go_wp2_with fail
              go_meet
              exact ⟨_, _, rfl, rfl, ⟨by simp [go_sem], by simp [go_sem], by simp [go_sem], by simp [go_sem], by simp [go_sem]⟩, ⟨by simp [go_sem], by simp [go_sem], by simp [go_sem], by simp [go_sem], by simp [go_sem]⟩, by (repeat (first | (with_reducible exact LaterOf.refl _) | (with_reducible refine LaterOf.alloc ?_ _) | (with_reducible refine LaterOf.drew ?_) | (with_reducible refine LaterOf.drewN ?_ _) | (with_reducible refine LaterOf.later ?_ _) | (with_reducible refine LaterOf.setCell ?_ (by first | exact Nat.le_refl _ | (simp; done) | omega | (simp; omega)) _)))⟩
          case rest =>
            obtain ⟨b6, b7, rfl, rfl, v6, v7, ⟨u, rfl⟩⟩ := hcut
            have d0 := v6.c0
            have d1 := v6.c1
            have e0 := v7.c0
            have e1 := v7.c1
            have o6 : Nonempty (Old u.wd b6) := ⟨⟨v6.lt⟩⟩
            have o7 : Nonempty (Old u.wd b7) := ⟨⟨v7.lt⟩⟩
            simp only at d0 d1 e0 e1
            have HV := Lib.hid (And.intro v6 v7)
            clear v6 v7 hw1 hqt
            by_cases hdt : 0 < dt
            case neg =>
              have g3 : decide (cmpi dt 0 ≤ 0) = true := decide_eq_true ((cmpi_le dt).2 (by omega))
              rw [valid_no (fun h => hdt (HE.out.2.2.2.2.2 h))] at HR
              obtain rfl := HR.out
              clear hdt
              generalize cmpi dt 0 = t at *
              go_wp2_with fail
              refine region_later (by kernel_rfl) (by kernel_rfl) ?_
              repeat (go_big_quiet_step ((with_reducible refine Gives.later (T _))))
              refine wpQuiet_nil ?_
              rintro _ ⟨z4, rfl⟩
              clear hw2 hqt2
              go_wp2_with fail
              go_returns
              exact ⟨rfl, by (repeat (first | (with_reducible exact LaterOf.refl _) | (with_reducible refine LaterOf.alloc ?_ _) | (with_reducible refine LaterOf.drew ?_) | (with_reducible refine LaterOf.drewN ?_ _) | (with_reducible refine LaterOf.later ?_ _) | (with_reducible refine LaterOf.setCell ?_ (by first | exact Nat.le_refl _ | (simp; done) | omega | (simp; omega)) _)))⟩
            have g3 : decide (cmpi dt 0 ≤ 0) = false := decide_eq_false (fun h => by have := (cmpi_le dt).1 h; omega)
            have HD := Lib.hid hdt
            clear hdt
            generalize cmpi dt 0 = t at *
            go_wp2_with fail
            refine region_later (by kernel_rfl) (by kernel_rfl) ?_
            repeat (go_big_quiet_step ((with_reducible refine Gives.later (T _))))
            refine wpQuiet_nil ?_
            rintro _ ⟨z4, rfl⟩
            clear hw2 hqt2 T g3 a0 a1 b0 b1 c0 c1 d0 d1 e0 e1 o6 o7
            go_wp2_with fail
            go_loopg [8] r.length (fun gas s8 wr => ∃ k : Nat, k ≤ r.length ∧ r.length - k ≤ gas ∧ s8 = .int .i64 k ∧ LaterOf u.wd wr ∧ ∀ m, m < k → 0 ≤ det (at0 r i) (rv r (i + 1)) (at0 r m) ∧ (m ≠ i → at0 r m ≠ at0 r i))
            case atStart => exact ⟨0, by omega, by omega, rfl, by (repeat (first | (with_reducible exact LaterOf.refl _) | (with_reducible refine LaterOf.alloc ?_ _) | (with_reducible refine LaterOf.drew ?_) | (with_reducible refine LaterOf.drewN ?_ _) | (with_reducible refine LaterOf.later ?_ _) | (with_reducible refine LaterOf.setCell ?_ (by first | exact Nat.le_refl _ | (simp; done) | omega | (simp; omega)) _))), fun m hm => by omega⟩
            case round =>
              obtain ⟨k, hk, hgas2, rfl, ⟨v, rfl⟩, hin⟩ := hrel
              have HI := Lib.hid hin
              clear hin
              by_cases hlt2 : k < r.length
              · have v6 := HV.out.1.of (W' := v.wd) (by (repeat (first | (with_reducible exact SinceOf.refl _) | (with_reducible assumption) | (with_reducible refine SinceOf.alloc ?_ _) | (with_reducible refine SinceOf.drew ?_) | (with_reducible refine SinceOf.drewN ?_ _) | (with_reducible refine SinceOf.later ?_ _) | (with_reducible refine SinceOf.further ?_ _) | (with_reducible refine SinceOf.setCell ?_ (by first | exact Nat.le_refl _ | (simp; done) | omega | (simp; omega)) _))))
                have v7 := HV.out.2.of (W' := v.wd) (by (repeat (first | (with_reducible exact SinceOf.refl _) | (with_reducible assumption) | (with_reducible refine SinceOf.alloc ?_ _) | (with_reducible refine SinceOf.drew ?_) | (with_reducible refine SinceOf.drewN ?_ _) | (with_reducible refine SinceOf.later ?_ _) | (with_reducible refine SinceOf.further ?_ _) | (with_reducible refine SinceOf.setCell ?_ (by first | exact Nat.le_refl _ | (simp; done) | omega | (simp; omega)) _))))
                have d0 := v6.c0
                have d1 := v6.c1
                have e0 := v7.c0
                have e1 := v7.c1
                have o6 : Nonempty (Old v.wd b6) := ⟨⟨v6.lt⟩⟩
                have o7 : Nonempty (Old v.wd b7) := ⟨⟨v7.lt⟩⟩
                simp only at d0 d1 e0 e1
                have hc := (H.out.of (w' := v.wd) (by (repeat (first | (with_reducible exact SinceOf.refl _) | (with_reducible assumption) | (with_reducible refine SinceOf.alloc ?_ _) | (with_reducible refine SinceOf.drew ?_) | (with_reducible refine SinceOf.drewN ?_ _) | (with_reducible refine SinceOf.later ?_ _) | (with_reducible refine SinceOf.further ?_ _) | (with_reducible refine SinceOf.setCell ?_ (by first | exact Nat.le_refl _ | (simp; done) | omega | (simp; omega)) _)))))
                obtain ⟨g', off', he, hr⟩ := hc.at_ (by omega)
                injection he with he
                injection he with hg1 ho1
                subst hg1 ho1
                have hO' := hr.there
                have k0 := hr.v0 k hlt2
                have k1 := hr.v1 k hlt2
                have ek : at0 r k = r[k] := at0_eq hlt2
                have nk := HN.out _ (List.getElem_mem hlt2)
                have T := refTurn_any xa ya xb yb r[k].1 r[k].2
                have htd := turn_near (by omega) HE.out.2.2.2.1 HE.out.2.2.2.2.1 nk
                simp only at htd
                rw [htd] at T
                have hcl : Conv15 r → 0 ≤ det (xa, ya) (xb, yb) r[k] := fun h => by
                  have := h.2.2.2.left i hlt _ (List.getElem_mem hlt2)
                  rwa [HE.out.1, HE.out.2.1] at this
                have hcn : Conv15 r → k ≠ i → r[k] ≠ (xa, ya) := fun h hki => by
                  have := h.2.2.2.ne h.1 hlt hlt2 hki
                  rwa [HE.out.1, ek] at this
                have HK := Lib.hid (And.intro ek (And.intro hcl hcn))
                clear hr hc v6 v7 ek nk htd hcl hcn
                obtain ⟨dk, hdkd⟩ : ∃ dk, det (xa, ya) (xb, yb) r[k] = dk := ⟨_, rfl⟩
                rw [hdkd] at T HK
                have HDD := Lib.hid hdkd
                clear hdkd
                generalize r[k] = pk at *
                obtain ⟨xk, yk⟩ := pk
                simp only at k0 k1 T
                by_cases hdk : dk < 0
                · have g3 : decide (cmpi dk 0 < 0) = true := decide_eq_true ((cmpi_lt dk).2 hdk)
                  rw [valid_no (fun h => by have := HK.out.2.1 h; omega)] at HR
                  obtain rfl := HR.out
                  clear hdk
                  generalize cmpi dk 0 = tk at *
                  go_wp2_with fail
                  refine region_later (by kernel_rfl) (by kernel_rfl) ?_
                  repeat (go_big_quiet_step ((with_reducible refine Gives.later (T _))))
                  refine wpQuiet_nil ?_
                  rintro _ ⟨z5, rfl⟩
                  go_wp2_with fail
                  go_returns
                  exact ⟨rfl, by (repeat (first | (with_reducible exact LaterOf.refl _) | (with_reducible refine LaterOf.alloc ?_ _) | (with_reducible refine LaterOf.drew ?_) | (with_reducible refine LaterOf.drewN ?_ _) | (with_reducible refine LaterOf.later ?_ _) | (with_reducible refine LaterOf.setCell ?_ (by first | exact Nat.le_refl _ | (simp; done) | omega | (simp; omega)) _)))⟩
                have g3 : decide (cmpi dk 0 < 0) = false := decide_eq_false (fun h => hdk ((cmpi_lt dk).1 h))
                have HDK := Lib.hid hdk
                clear hdk
                generalize cmpi dk 0 = tk at *
                by_cases hki : k = i
                · have g4 : ((k : Int) != (i : Int)) = false := by simp [hki]
                  have HKI := Lib.hid hki
                  clear hki
                  go_wp2_with fail
                  refine region_later (by kernel_rfl) (by kernel_rfl) ?_
                  repeat (go_big_quiet_step ((with_reducible refine Gives.later (T _))))
                  refine wpQuiet_nil ?_
                  rintro _ ⟨z5, rfl⟩
                  clear g4
                  go_wp2_with fail
                  go_roundg (r.length - (k + 1))
                  case measure => omega
                  case rel =>
                    refine ⟨k + 1, hlt2, Nat.le_refl _, by go_num, by (repeat (first | (with_reducible exact LaterOf.refl _) | (with_reducible refine LaterOf.alloc ?_ _) | (with_reducible refine LaterOf.drew ?_) | (with_reducible refine LaterOf.drewN ?_ _) | (with_reducible refine LaterOf.later ?_ _) | (with_reducible refine LaterOf.setCell ?_ (by first | exact Nat.le_refl _ | (simp; done) | omega | (simp; omega)) _))), fun m hm => ?_⟩
                    by_cases e : m = k
                    · subst e
                      refine ⟨?_, fun h => absurd HKI.out h⟩
                      rw [HK.out.1, HE.out.1, HE.out.2.1, HDD.out]
                      have := HDK.out
                      omega
                    · exact HI.out m (by omega)
                · have g4 : ((k : Int) != (i : Int)) = true := by
                    have : ¬ (k : Int) = (i : Int) := by omega
                    simpa using this
                  have HKI := Lib.hid hki
                  clear hki
                  by_cases he : eqv xk yk xa ya = true
                  · rw [valid_no (fun h => by
                      obtain ⟨e1, e2⟩ := eqv_iff.1 he
                      exact HK.out.2.2 h HKI.out (Prod.ext e1 e2))] at HR
                    obtain rfl := HR.out
                    obtain ⟨rfl, rfl⟩ := eqv_iff.1 he
                    clear he
                    go_wp2_with fail
                    refine region_later (by kernel_rfl) (by kernel_rfl) ?_
                    repeat (go_big_quiet_step ((with_reducible refine Gives.later (T _))))
                    refine wpQuiet_nil ?_
                    rintro _ ⟨z5, rfl⟩
                    go_wp2_with fail
                    go_returns
                    exact ⟨rfl, by (repeat (first | (with_reducible exact LaterOf.refl _) | (with_reducible refine LaterOf.alloc ?_ _) | (with_reducible refine LaterOf.drew ?_) | (with_reducible refine LaterOf.drewN ?_ _) | (with_reducible refine LaterOf.later ?_ _) | (with_reducible refine LaterOf.setCell ?_ (by first | exact Nat.le_refl _ | (simp; done) | omega | (simp; omega)) _)))⟩
                  · have hne : eqv xk yk xa ya = false := by simpa using he
                    have HN2 := Lib.hid he
                    clear he
                    go_wp2_with fail
                    refine region_later (by kernel_rfl) (by kernel_rfl) ?_
                    repeat (go_big_quiet_step ((with_reducible refine Gives.later (T _))))
                    refine wpQuiet_nil ?_
                    rintro _ ⟨z5, rfl⟩
                    clear g4
                    go_wp2_with fail
                    go_roundg (r.length - (k + 1))
                    case measure => omega
                    case rel =>
                      refine ⟨k + 1, hlt2, Nat.le_refl _, by go_num, by (repeat (first | (with_reducible exact LaterOf.refl _) | (with_reducible refine LaterOf.alloc ?_ _) | (with_reducible refine LaterOf.drew ?_) | (with_reducible refine LaterOf.drewN ?_ _) | (with_reducible refine LaterOf.later ?_ _) | (with_reducible refine LaterOf.setCell ?_ (by first | exact Nat.le_refl _ | (simp; done) | omega | (simp; omega)) _))), fun m hm => ?_⟩
                      by_cases e : m = k
                      · subst e
                        refine ⟨?_, fun h => ?_⟩
                        · rw [HK.out.1, HE.out.1, HE.out.2.1, HDD.out]
                          have := HDK.out
                          omega
                        · rw [HK.out.1, HE.out.1]
                          intro e
                          injection e with e1 e2
                          exact HN2.out (eqv_iff.2 ⟨e1, e2⟩)
                      · exact HI.out m (by omega)
              · obtain rfl : k = r.length := by omega
                have HX := Lib.hid (show ∀ j, j < i + 1 → 0 < det (at0 r j) (rv r (j + 1)) (rv r (j + 2)) ∧ ∀ k, k < r.length → 0 ≤ det (at0 r j) (rv r (j + 1)) (at0 r k) ∧ (k ≠ j → at0 r k ≠ at0 r j) from fun j hj => by
                  by_cases e : j = i
                  · subst e
                    refine ⟨?_, HI.out⟩
                    rw [HE.out.1, HE.out.2.1, HE.out.2.2.1, HDT.out]
                    exact HD.out
                  · exact HA.out j (by omega))
                clear HI
                go_wp2_with fail
                go_roundg (r.length - (i + 1))
                case measure => omega
                case rel => exact ⟨i + 1, hlt, Nat.le_refl _, by go_num, by (repeat (first | (with_reducible exact LaterOf.refl _) | (with_reducible refine LaterOf.alloc ?_ _) | (with_reducible refine LaterOf.drew ?_) | (with_reducible refine LaterOf.drewN ?_ _) | (with_reducible refine LaterOf.later ?_ _) | (with_reducible refine LaterOf.setCell ?_ (by first | exact Nat.le_refl _ | (simp; done) | omega | (simp; omega)) _))), HX.out⟩
        · obtain rfl : i = r.length := by omega
          have hcx : ConvexI r := ref_convex (by omega) (fun j hj => (HA.out j hj).1) (fun j hj k hk => ((HA.out j hj).2 k hk).1) (fun j hj k hk h => ((HA.out j hj).2 k hk).2 h)
          rw [show validB r = true from validB_iff.2 ⟨by omega, by omega, HN.out, hcx⟩] at HR
          obtain rfl := HR.out
          clear hcx
          go_wp2_with fail
          go_returns
          exact ⟨rfl, by (repeat (first | (with_reducible exact LaterOf.refl _) | (with_reducible refine LaterOf.alloc ?_ _) | (with_reducible refine LaterOf.drew ?_) | (with_reducible refine LaterOf.drewN ?_ _) | (with_reducible refine LaterOf.later ?_ _) | (with_reducible refine LaterOf.setCell ?_ (by first | exact Nat.le_refl _ | (simp; done) | omega | (simp; omega)) _)))⟩
end Go.Proofs.Ytbienlhofkfdpaa
