/- The law CalendarCloses of layer 51: the plain law and the walk. -/
import Derived.Test.YtbceogoeoojdbaaCalLaws3
import Derived.Test.YtbceogoeoojdbaaCalPlain3
namespace Go.Proofs.Ytbceogoeoojdbaa
open Go.RowKit Go.Sort
set_option linter.unusedVariables false
attribute [local go_sem ↓] Go.wp_at_zero Go.wp_at_succ

/-- What a good closing gives. -/
structure Closed (P : Int) (S D : List (Int × Int)) (a b : Int) (M : List (Int × Int)) : Prop where
  check : checkB a b = true
  valid : validB P S M = true
  asc : ascI 1000000 (-1) M = true
  set : ∀ t, inI M t = (inI D t || decide (a ≤ t ∧ t < b))
theorem closeR_good {P : Int} {S D : List (Int × Int)} {a b err P' : Int} {S' D' : List (Int × Int)} (h : CloseR P S D a b err P' S' D') (hv : validB P S D = true) :
    (err = 2 ∧ checkB a b = false) ∨ err = 9 ∨ (err = 0 ∧ P' = P ∧ S' = S ∧ Closed P S D a b D') := by
  rcases h with ⟨hf, h1, -, -, -⟩ | ⟨g, hc, M, hM, hs, ⟨hl, h1, h2, h3, h4⟩ | ⟨hl, h1, -⟩⟩
  · rw [hv, Bool.true_and] at hf
    rw [hv, hf] at h1
    exact .inl ⟨h1, hf⟩
  · refine .inr (.inr ⟨h1, h2, h3, hc, ?_, h4 ▸ hM, h4 ▸ hs⟩)
    subst h4
    exact validB_iff.2 { g with d := hM, d20 := hl }
  · exact .inr (.inl h1)
theorem Closed.openV {P : Int} {S D : List (Int × Int)} {a b : Int} {M : List (Int × Int)} (h : Closed P S D a b M) (hv : validB P S D = true) (t : Int) : openV P S M t = (openV P S D t && (decide (t < a) || decide (b ≤ t))) := by
  unfold Go.Proofs.Ytbceogoeoojdbaa.openV openI
  rw [h.valid, hv, h.set t]
  by_cases h1 : t < a
  · rw [show decide (t < a) = true from by simpa using h1, show decide (a ≤ t ∧ t < b) = false from by simp; omega]; simp
  · by_cases h2 : b ≤ t
    · rw [show decide (b ≤ t) = true from by simpa using h2, show decide (a ≤ t ∧ t < b) = false from by simp; omega]; simp
    · rw [show decide (t < a) = false from by simpa using h1, show decide (b ≤ t) = false from by simpa using h2, show decide (a ≤ t ∧ t < b) = true from by simp; omega]; simp
theorem Closed.finish {P : Int} {S D : List (Int × Int)} {a b : Int} {M : List (Int × Int)} (h : Closed P S D a b M) (hv : validB P S D = true) (t k : Int) :
    (finishV P S M t k).2 ≠ 0 ∨ ((finishV P S M t k).2 = 0 ∧ (finishV P S D t k).2 = 0 ∧ (finishV P S D t k).1 ≤ (finishV P S M t k).1) := by
  by_cases he : (finishV P S M t k).2 = 0
  · refine .inr ⟨he, ?_⟩
    by_cases hg : timeB t = true ∧ timeB k = true
    · rw [finishV_eq h.valid hg.1 hg.2] at he ⊢
      rw [finishV_eq hv hg.1 hg.2]
      have hq : foundV t (fun i => decide (k ≤ cnt (openI P S M) t i)) (1000001 - t).toNat = ((foundV t (fun i => decide (k ≤ cnt (openI P S M) t i)) (1000001 - t).toNat).1, 0) := Prod.ext rfl he
      obtain ⟨u, hu, hle⟩ := found_before (a := t) (p := fun i => decide (k ≤ cnt (openI P S D) t i)) (n := (1000001 - t).toNat) (fun j hj hq => ⟨j, hj, by
        have : cnt (openI P S M) t j ≤ cnt (openI P S D) t j := cnt_le fun i _ ho => by
          unfold openI at ho ⊢
          rw [h.set] at ho
          simp only [Bool.and_eq_true, Bool.not_eq_true', Bool.or_eq_false_iff] at ho ⊢
          exact ⟨ho.1, ho.2.1⟩
        simp only [decide_eq_true_eq] at hq ⊢
        omega, Int.le_refl _⟩) hq
      rw [hu]
      exact ⟨rfl, hle⟩
    · exfalso
      unfold finishV at he
      rw [show (timeB t && timeB k) = false from by cases h1 : timeB t <;> cases h2 : timeB k <;> simp [h1, h2] at hg ⊢, h.valid] at he
      simp [errI] at he
  · exact .inl he
theorem Closed.swap {P : Int} {S D M N K : List (Int × Int)} {a b c d : Int} (h : Closed P S D a b M) (k : Closed P S M c d K) (n : Closed P S D c d N) {err P' : Int} {S' D' : List (Int × Int)} (r : CloseR P S N a b err P' S' D') :
    err = 0 ∧ P' = P ∧ S' = S ∧ D' = K := by
  rcases r with ⟨hf, -⟩ | ⟨g, hc, M', hM, hs, hr⟩
  · rw [n.valid, h.check] at hf; cases hf
  · obtain rfl : M' = K := ascI_unique hM k.asc (fun t => by rw [hs, n.set, k.set, h.set, Bool.or_assoc, Bool.or_assoc, Bool.or_comm (decide (c ≤ t ∧ t < d))])
    have hl := (validB_iff.1 k.valid).d20
    rcases hr with ⟨-, h1, h2, h3, h4⟩ | ⟨hl2, -⟩
    · exact ⟨h1, h2, h3, h4⟩
    · omega

section
variable {P : Int} {A B : Option Addr} {n c m d : Nat} {S D : List (Int × Int)} {w : World}
set_option maxRecDepth 100000 in
set_option maxHeartbeats 8000000 in
theorem calCloses_law (x y z p q r : Int) (h : IsCal w P A n c B m d S D) : Yields Try.prog 8 #[CalV P A n c B m d, askV x y z, askV p q r] w (.bool true) := by
  apply Yields.ret
  have FW := fun W hW => few_any (w := W) (h.of hW)
  generalize (decide (S.length ≤ 25) && decide (D.length ≤ 25)) = few at *
  cases few
  · clear h
    go_enter Try.func8, Try.ntmps8
    go_wp2_with fail
    refine (awake51_any _).calls.mono ?_
    rintro e _ ⟨rfl, x1, rfl⟩
    go_wp2_with fail
    refine (FW _ (by (repeat (first | (with_reducible exact SinceOf.refl _) | (with_reducible assumption) | (with_reducible refine SinceOf.alloc ?_ _) | (with_reducible refine SinceOf.drew ?_) | (with_reducible refine SinceOf.drewN ?_ _) | (with_reducible refine SinceOf.later ?_ _) | (with_reducible refine SinceOf.further ?_ _) | (with_reducible refine SinceOf.setCell ?_ (by first | exact Nat.le_refl _ | (simp; done) | omega | (simp; omega)) _))))).calls.mono ?_
    rintro e _ ⟨rfl, x2, rfl⟩
    go_wp2_with fail
    go_returns
    exact ⟨rfl, by (repeat (first | (with_reducible exact SinceOf.refl _) | (with_reducible assumption) | (with_reducible refine SinceOf.alloc ?_ _) | (with_reducible refine SinceOf.drew ?_) | (with_reducible refine SinceOf.drewN ?_ _) | (with_reducible refine SinceOf.later ?_ _) | (with_reducible refine SinceOf.further ?_ _) | (with_reducible refine SinceOf.setCell ?_ (by first | exact Nat.le_refl _ | (simp; done) | omega | (simp; omega)) _)))⟩
  · have V := h.refValid (v := validB P S D) rfl
    cases hv : validB P S D
    · rw [hv] at V
      clear h hv
      go_enter Try.func8, Try.ntmps8
      go_wp2_with fail
      refine (awake51_any _).calls.mono ?_
      rintro e _ ⟨rfl, x1, rfl⟩
      go_wp2_with fail
      refine (FW _ (by (repeat (first | (with_reducible exact SinceOf.refl _) | (with_reducible assumption) | (with_reducible refine SinceOf.alloc ?_ _) | (with_reducible refine SinceOf.drew ?_) | (with_reducible refine SinceOf.drewN ?_ _) | (with_reducible refine SinceOf.later ?_ _) | (with_reducible refine SinceOf.further ?_ _) | (with_reducible refine SinceOf.setCell ?_ (by first | exact Nat.le_refl _ | (simp; done) | omega | (simp; omega)) _))))).calls.mono ?_
      rintro e _ ⟨rfl, x2, rfl⟩
      go_wp2_with fail
      refine (V _ (by (repeat (first | (with_reducible exact SinceOf.refl _) | (with_reducible assumption) | (with_reducible refine SinceOf.alloc ?_ _) | (with_reducible refine SinceOf.drew ?_) | (with_reducible refine SinceOf.drewN ?_ _) | (with_reducible refine SinceOf.later ?_ _) | (with_reducible refine SinceOf.further ?_ _) | (with_reducible refine SinceOf.setCell ?_ (by first | exact Nat.le_refl _ | (simp; done) | omega | (simp; omega)) _))))).calls.mono ?_
      rintro e _ ⟨rfl, x3, rfl⟩
      go_wp2_with fail
      go_returns
      exact ⟨rfl, by (repeat (first | (with_reducible exact SinceOf.refl _) | (with_reducible assumption) | (with_reducible refine SinceOf.alloc ?_ _) | (with_reducible refine SinceOf.drew ?_) | (with_reducible refine SinceOf.drewN ?_ _) | (with_reducible refine SinceOf.later ?_ _) | (with_reducible refine SinceOf.further ?_ _) | (with_reducible refine SinceOf.setCell ?_ (by first | exact Nat.le_refl _ | (simp; done) | omega | (simp; omega)) _)))⟩
    · rw [hv] at V
      have key : ((decide (x < 0) = true) ∨ (decide (x < 0) = false ∧ decide (20000 < y) = true) ∨ (decide (x < 0) = false ∧ decide (20000 < y) = false ∧ decide (p < 0) = true) ∨ (decide (x < 0) = false ∧ decide (20000 < y) = false ∧ decide (p < 0) = false ∧ decide (20000 < q) = true)) ∨
          ((decide (x < 0) = false ∧ decide (20000 < y) = false ∧ decide (p < 0) = false ∧ decide (20000 < q) = false) ∧ 0 ≤ x ∧ y ≤ 20000) := by
        simp only [decide_eq_true_eq, decide_eq_false_iff_not]; omega
      rcases key with key | ⟨⟨b1, b2, b3, b4⟩, g1, g2⟩
      · rcases key with b1 | ⟨b1, b2⟩ | ⟨b1, b2, b3⟩ | ⟨b1, b2, b3, b4⟩
        all_goals
          clear h hv
          go_enter Try.func8, Try.ntmps8
          go_wp2_with fail
          refine (awake51_any _).calls.mono ?_
          rintro e _ ⟨rfl, x1, rfl⟩
          go_wp2_with fail
          refine (FW _ (by (repeat (first | (with_reducible exact SinceOf.refl _) | (with_reducible assumption) | (with_reducible refine SinceOf.alloc ?_ _) | (with_reducible refine SinceOf.drew ?_) | (with_reducible refine SinceOf.drewN ?_ _) | (with_reducible refine SinceOf.later ?_ _) | (with_reducible refine SinceOf.further ?_ _) | (with_reducible refine SinceOf.setCell ?_ (by first | exact Nat.le_refl _ | (simp; done) | omega | (simp; omega)) _))))).calls.mono ?_
          rintro e _ ⟨rfl, x2, rfl⟩
          go_wp2_with fail
          refine (V _ (by (repeat (first | (with_reducible exact SinceOf.refl _) | (with_reducible assumption) | (with_reducible refine SinceOf.alloc ?_ _) | (with_reducible refine SinceOf.drew ?_) | (with_reducible refine SinceOf.drewN ?_ _) | (with_reducible refine SinceOf.later ?_ _) | (with_reducible refine SinceOf.further ?_ _) | (with_reducible refine SinceOf.setCell ?_ (by first | exact Nat.le_refl _ | (simp; done) | omega | (simp; omega)) _))))).calls.mono ?_
          rintro e _ ⟨rfl, x3, rfl⟩
          go_wp2_with fail
          go_returns
          exact ⟨rfl, by (repeat (first | (with_reducible exact SinceOf.refl _) | (with_reducible assumption) | (with_reducible refine SinceOf.alloc ?_ _) | (with_reducible refine SinceOf.drew ?_) | (with_reducible refine SinceOf.drewN ?_ _) | (with_reducible refine SinceOf.later ?_ _) | (with_reducible refine SinceOf.further ?_ _) | (with_reducible refine SinceOf.setCell ?_ (by first | exact Nat.le_refl _ | (simp; done) | omega | (simp; omega)) _)))⟩
      · have HV := Lib.hid (And.intro hv h)
        clear h hv
        go_enter Try.func8, Try.ntmps8
        go_wp2_with fail
        refine (awake51_any _).calls.mono ?_
        rintro e _ ⟨rfl, x1, rfl⟩
        go_wp2_with fail
        refine (FW _ (by (repeat (first | (with_reducible exact SinceOf.refl _) | (with_reducible assumption) | (with_reducible refine SinceOf.alloc ?_ _) | (with_reducible refine SinceOf.drew ?_) | (with_reducible refine SinceOf.drewN ?_ _) | (with_reducible refine SinceOf.later ?_ _) | (with_reducible refine SinceOf.further ?_ _) | (with_reducible refine SinceOf.setCell ?_ (by first | exact Nat.le_refl _ | (simp; done) | omega | (simp; omega)) _))))).calls.mono ?_
        rintro e _ ⟨rfl, x2, rfl⟩
        go_wp2_with fail
        refine (V _ (by (repeat (first | (with_reducible exact SinceOf.refl _) | (with_reducible assumption) | (with_reducible refine SinceOf.alloc ?_ _) | (with_reducible refine SinceOf.drew ?_) | (with_reducible refine SinceOf.drewN ?_ _) | (with_reducible refine SinceOf.later ?_ _) | (with_reducible refine SinceOf.further ?_ _) | (with_reducible refine SinceOf.setCell ?_ (by first | exact Nat.le_refl _ | (simp; done) | omega | (simp; omega)) _))))).calls.mono ?_
        rintro e _ ⟨rfl, x3, rfl⟩
        go_wp2_with fail
        refine (own_any _ _ _ _ _ _ _ _).calls.mono ?_
        rintro e _ ⟨rfl, x4, rfl⟩
        go_wp2_with fail
        refine (close_any x y (HV.out.2.of (by (repeat (first | (with_reducible exact SinceOf.refl _) | (with_reducible assumption) | (with_reducible refine SinceOf.alloc ?_ _) | (with_reducible refine SinceOf.drew ?_) | (with_reducible refine SinceOf.drewN ?_ _) | (with_reducible refine SinceOf.later ?_ _) | (with_reducible refine SinceOf.further ?_ _) | (with_reducible refine SinceOf.setCell ?_ (by first | exact Nat.le_refl _ | (simp; done) | omega | (simp; omega)) _)))))).mono ?_
        rintro e _ ⟨⟨y1, rfl⟩, err, P', A', n', c', B', m', d', S', M, rfl, hcal, hr, -, -⟩
        rcases closeR_good hr HV.out.1 with ⟨rfl, hc⟩ | rfl | ⟨rfl, rfl, rfl, hc⟩
        · have hyx : decide (y < x) = true := by
            have := checkB_not.1 hc
            simp; omega
          clear hcal hr hc
          go_wp2_with fail
          go_returns
          exact ⟨by simp [*], by (repeat (first | (with_reducible exact SinceOf.refl _) | (with_reducible assumption) | (with_reducible refine SinceOf.alloc ?_ _) | (with_reducible refine SinceOf.drew ?_) | (with_reducible refine SinceOf.drewN ?_ _) | (with_reducible refine SinceOf.later ?_ _) | (with_reducible refine SinceOf.further ?_ _) | (with_reducible refine SinceOf.setCell ?_ (by first | exact Nat.le_refl _ | (simp; done) | omega | (simp; omega)) _)))⟩
        · clear hcal hr
          go_wp2_with fail
          go_returns
          exact ⟨by simp [*], by (repeat (first | (with_reducible exact SinceOf.refl _) | (with_reducible assumption) | (with_reducible refine SinceOf.alloc ?_ _) | (with_reducible refine SinceOf.drew ?_) | (with_reducible refine SinceOf.drewN ?_ _) | (with_reducible refine SinceOf.later ?_ _) | (with_reducible refine SinceOf.further ?_ _) | (with_reducible refine SinceOf.setCell ?_ (by first | exact Nat.le_refl _ | (simp; done) | omega | (simp; omega)) _)))⟩
        · have HC := Lib.hid (And.intro hc hcal)
          have OO := hc.openV HV.out.1 p
          clear hcal hr hc
          go_upto_region 10 with fail
          go_cut [97] (fun s97 wx => s97 = .bool false ∧ CalAt wx y1.wd.heap.size P' A' n' c' B' m' d' ∧ SinceOf y1.wd wx)
          case first =>
            have O1 := fun W hW => open_any (w := W) p (HC.out.2.of hW)
            have O2 := fun W hW => open_any (w := W) p (HV.out.2.of hW)
            have hcase : (openV P' S' D p = false ∧ openV P' S' M p = false) ∨ (openV P' S' D p = true ∧ openV P' S' M p = true ∧ decide (p < x) = true) ∨ (openV P' S' D p = true ∧ openV P' S' M p = true ∧ decide (p < x) = false ∧ decide (y ≤ p) = true) ∨ (openV P' S' D p = true ∧ openV P' S' M p = false ∧ decide (p < x) = false ∧ decide (y ≤ p) = false) := by
              rw [OO]
              cases openV P' S' D p <;> cases decide (p < x) <;> cases decide (y ≤ p) <;> simp
            generalize openV P' S' D p = o1 at *
            generalize openV P' S' M p = o2 at *
            clear OO
            rcases hcase with ⟨rfl, rfl⟩ | ⟨rfl, rfl, h1⟩ | ⟨rfl, rfl, h1, h2⟩ | ⟨rfl, rfl, h1, h2⟩
            all_goals
              refine region_later (by kernel_rfl) (by kernel_rfl) ?_
              repeat (go_big_quiet_step ((first | (with_reducible refine Gives.later (O1 _ (by (repeat (first | (with_reducible exact SinceOf.refl _) | (with_reducible assumption) | (with_reducible refine SinceOf.alloc ?_ _) | (with_reducible refine SinceOf.drew ?_) | (with_reducible refine SinceOf.drewN ?_ _) | (with_reducible refine SinceOf.later ?_ _) | (with_reducible refine SinceOf.further ?_ _) | (with_reducible refine SinceOf.setCell ?_ (by first | exact Nat.le_refl _ | (simp; done) | omega | (simp; omega)) _)))))) | (with_reducible refine Gives.later (O2 _ (by (repeat (first | (with_reducible exact SinceOf.refl _) | (with_reducible assumption) | (with_reducible refine SinceOf.alloc ?_ _) | (with_reducible refine SinceOf.drew ?_) | (with_reducible refine SinceOf.drewN ?_ _) | (with_reducible refine SinceOf.later ?_ _) | (with_reducible refine SinceOf.further ?_ _) | (with_reducible refine SinceOf.setCell ?_ (by first | exact Nat.le_refl _ | (simp; done) | omega | (simp; omega)) _)))))))))
              refine wpQuiet_nil ?_
              rintro _ ⟨x5, rfl⟩
              go_wp2_with fail
              go_meet
              exact ⟨by simp [*], ⟨by simp [go_sem], by simp [go_sem], by simp [go_sem], inferInstance⟩, by (repeat (first | (with_reducible exact SinceOf.refl _) | (with_reducible assumption) | (with_reducible refine SinceOf.alloc ?_ _) | (with_reducible refine SinceOf.drew ?_) | (with_reducible refine SinceOf.drewN ?_ _) | (with_reducible refine SinceOf.later ?_ _) | (with_reducible refine SinceOf.further ?_ _) | (with_reducible refine SinceOf.setCell ?_ (by first | exact Nat.le_refl _ | (simp; done) | omega | (simp; omega)) _)))⟩
          case rest =>
            obtain ⟨rfl, ⟨k0, k1, k2, hO⟩, ⟨y3, rfl⟩⟩ := hcut
            clear OO
            go_wp2_with fail
            refine (finish_any p _ (HV.out.2.of (by (repeat (first | (with_reducible exact SinceOf.refl _) | (with_reducible assumption) | (with_reducible refine SinceOf.alloc ?_ _) | (with_reducible refine SinceOf.drew ?_) | (with_reducible refine SinceOf.drewN ?_ _) | (with_reducible refine SinceOf.later ?_ _) | (with_reducible refine SinceOf.further ?_ _) | (with_reducible refine SinceOf.setCell ?_ (by first | exact Nat.le_refl _ | (simp; done) | omega | (simp; omega)) _)))))).calls.mono ?_
            rintro e _ ⟨rfl, x5, rfl⟩
            rw [pairV_eq]
            go_wp2_with fail
            refine (finish_any p _ (HC.out.2.of (by (repeat (first | (with_reducible exact SinceOf.refl _) | (with_reducible assumption) | (with_reducible refine SinceOf.alloc ?_ _) | (with_reducible refine SinceOf.drew ?_) | (with_reducible refine SinceOf.drewN ?_ _) | (with_reducible refine SinceOf.later ?_ _) | (with_reducible refine SinceOf.further ?_ _) | (with_reducible refine SinceOf.setCell ?_ (by first | exact Nat.le_refl _ | (simp; done) | omega | (simp; omega)) _)))))).calls.mono ?_
            rintro e _ ⟨rfl, x6, rfl⟩
            rw [pairV_eq]
            go_upto_region 14 with fail
            have hfin := HC.out.1.finish HV.out.1 p (imax 0 (r.tmod 1000))
            generalize imax 0 (r.tmod 1000) = kk at *
            generalize finishV P' S' D p kk = ra at *
            generalize finishV P' S' M p kk = rb at *
            obtain ⟨f1, e1⟩ := ra
            obtain ⟨f2, e2⟩ := rb
            simp only at hfin
            go_cut [138] (fun s138 wx => s138 = .bool false ∧ x6.wd = wx)
            case first =>
              have hcase : ((e1 == 0) = true ∧ (e2 == 0) = false) ∨ ((e1 == 0) = false ∧ (e1 != 0) = true ∧ (e2 == 0) = false) ∨ (e1 = 0 ∧ e2 = 0 ∧ decide (f2 < f1) = false) := by
                rcases hfin with h1 | ⟨h1, h2, h3⟩
                · by_cases h0 : e1 = 0
                  · exact .inl ⟨by simp [h0], by simpa using h1⟩
                  · exact .inr (.inl ⟨by simpa using h0, by simpa using h0, by simpa using h1⟩)
                · exact .inr (.inr ⟨h2, h1, by simp; omega⟩)
              clear hfin
              rcases hcase with ⟨t1, t2⟩ | ⟨t1, t2, t3⟩ | ⟨rfl, rfl, t1⟩
              · obtain rfl : e1 = 0 := by simpa using t1
                go_wp2_with fail
                go_meet
                exact ⟨by simp [*], rfl⟩
              all_goals
                go_wp2_with fail
                go_meet
                exact ⟨by simp [*], rfl⟩
            case rest =>
              obtain ⟨rfl, rfl⟩ := hcut
              clear hfin
              go_wp2_with fail
              refine (close_any p q (HC.out.2.of (by (repeat (first | (with_reducible exact SinceOf.refl _) | (with_reducible assumption) | (with_reducible refine SinceOf.alloc ?_ _) | (with_reducible refine SinceOf.drew ?_) | (with_reducible refine SinceOf.drewN ?_ _) | (with_reducible refine SinceOf.later ?_ _) | (with_reducible refine SinceOf.further ?_ _) | (with_reducible refine SinceOf.setCell ?_ (by first | exact Nat.le_refl _ | (simp; done) | omega | (simp; omega)) _)))))).mono ?_
              rintro e _ ⟨⟨y7, rfl⟩, g1', P1, A1, n1, c1, B1, m1, d1, S1, D1, rfl, hcal1, hr1, -, -⟩
              have HA := Lib.hid (And.intro hcal1 hr1)
              clear hcal1 hr1
              go_wp2_with fail
              refine (close_any p q (HV.out.2.of (by (repeat (first | (with_reducible exact SinceOf.refl _) | (with_reducible assumption) | (with_reducible refine SinceOf.alloc ?_ _) | (with_reducible refine SinceOf.drew ?_) | (with_reducible refine SinceOf.drewN ?_ _) | (with_reducible refine SinceOf.later ?_ _) | (with_reducible refine SinceOf.further ?_ _) | (with_reducible refine SinceOf.setCell ?_ (by first | exact Nat.le_refl _ | (simp; done) | omega | (simp; omega)) _)))))).mono ?_
              rintro e _ ⟨⟨y8, rfl⟩, g2', P2, A2, n2, c2, B2, m2, d2, S2, D2, rfl, hcal2, hr2, -, -⟩
              have HB := Lib.hid (And.intro hcal2 hr2)
              clear hcal2 hr2
              by_cases z1 : g1' = 0
              · by_cases z2 : g2' = 0
                · subst z1 z2
                  have ha := closeR_good HA.out.2 HC.out.1.valid
                  have hb := closeR_good HB.out.2 HV.out.1
                  obtain ⟨rfl, rfl, hda⟩ : P1 = P' ∧ S1 = S' ∧ Closed P' S' M p q D1 := by
                    rcases ha with ⟨h, -⟩ | h | ⟨-, h1, h2, h3⟩
                    · cases h
                    · cases h
                    · exact ⟨h1, h2, h3⟩
                  obtain ⟨rfl, rfl, hdb⟩ : P2 = P1 ∧ S2 = S1 ∧ Closed P1 S1 D p q D2 := by
                    rcases hb with ⟨h, -⟩ | h | ⟨-, h1, h2, h3⟩
                    · cases h
                    · cases h
                    · exact ⟨h1, h2, h3⟩
                  have HD := Lib.hid (And.intro hda hdb)
                  clear ha hb hda hdb
                  go_wp2_with fail
                  refine (close_any x y (HB.out.1.of (by (repeat (first | (with_reducible exact SinceOf.refl _) | (with_reducible assumption) | (with_reducible refine SinceOf.alloc ?_ _) | (with_reducible refine SinceOf.drew ?_) | (with_reducible refine SinceOf.drewN ?_ _) | (with_reducible refine SinceOf.later ?_ _) | (with_reducible refine SinceOf.further ?_ _) | (with_reducible refine SinceOf.setCell ?_ (by first | exact Nat.le_refl _ | (simp; done) | omega | (simp; omega)) _)))))).mono ?_
                  rintro e _ ⟨⟨y9, rfl⟩, g3', P3, A3, n3, c3, B3, m3, d3, S3, D3, rfl, hcal3, hr3, -, -⟩
                  obtain ⟨rfl, rfl, rfl, rfl⟩ := HC.out.1.swap HD.out.1 HD.out.2 hr3
                  have HE := Lib.hid hcal3
                  clear hcal3 hr3
                  go_wp2_with fail
                  refine (equal_any (HE.out.of (by (repeat (first | (with_reducible exact SinceOf.refl _) | (with_reducible assumption) | (with_reducible refine SinceOf.alloc ?_ _) | (with_reducible refine SinceOf.drew ?_) | (with_reducible refine SinceOf.drewN ?_ _) | (with_reducible refine SinceOf.later ?_ _) | (with_reducible refine SinceOf.further ?_ _) | (with_reducible refine SinceOf.setCell ?_ (by first | exact Nat.le_refl _ | (simp; done) | omega | (simp; omega)) _))))) (HA.out.1.of (by (repeat (first | (with_reducible exact SinceOf.refl _) | (with_reducible assumption) | (with_reducible refine SinceOf.alloc ?_ _) | (with_reducible refine SinceOf.drew ?_) | (with_reducible refine SinceOf.drewN ?_ _) | (with_reducible refine SinceOf.later ?_ _) | (with_reducible refine SinceOf.further ?_ _) | (with_reducible refine SinceOf.setCell ?_ (by first | exact Nat.le_refl _ | (simp; done) | omega | (simp; omega)) _))))) HE.out.ns).calls.mono ?_
                  rw [show (P3 == P3 && (decide (S3 = S3) && decide (D3 = D3))) = true from by simp]
                  rintro e _ ⟨rfl, x9, rfl⟩
                  go_wp2_with fail
                  go_returns
                  exact ⟨rfl, by (repeat (first | (with_reducible exact SinceOf.refl _) | (with_reducible assumption) | (with_reducible refine SinceOf.alloc ?_ _) | (with_reducible refine SinceOf.drew ?_) | (with_reducible refine SinceOf.drewN ?_ _) | (with_reducible refine SinceOf.later ?_ _) | (with_reducible refine SinceOf.further ?_ _) | (with_reducible refine SinceOf.setCell ?_ (by first | exact Nat.le_refl _ | (simp; done) | omega | (simp; omega)) _)))⟩
                · subst z1
                  have z3 : (g2' != 0) = true := by simpa using z2
                  have z4 : (g2' == 0) = false := by simpa using z2
                  go_wp2_with fail
                  go_returns
                  exact ⟨rfl, by (repeat (first | (with_reducible exact SinceOf.refl _) | (with_reducible assumption) | (with_reducible refine SinceOf.alloc ?_ _) | (with_reducible refine SinceOf.drew ?_) | (with_reducible refine SinceOf.drewN ?_ _) | (with_reducible refine SinceOf.later ?_ _) | (with_reducible refine SinceOf.further ?_ _) | (with_reducible refine SinceOf.setCell ?_ (by first | exact Nat.le_refl _ | (simp; done) | omega | (simp; omega)) _)))⟩
              · have z3 : (g1' != 0) = true := by simpa using z1
                have z4 : (g1' == 0) = false := by simpa using z1
                go_wp2_with fail
                go_returns
                exact ⟨rfl, by (repeat (first | (with_reducible exact SinceOf.refl _) | (with_reducible assumption) | (with_reducible refine SinceOf.alloc ?_ _) | (with_reducible refine SinceOf.drew ?_) | (with_reducible refine SinceOf.drewN ?_ _) | (with_reducible refine SinceOf.later ?_ _) | (with_reducible refine SinceOf.further ?_ _) | (with_reducible refine SinceOf.setCell ?_ (by first | exact Nat.le_refl _ | (simp; done) | omega | (simp; omega)) _)))⟩
end
end Go.Proofs.Ytbceogoeoojdbaa
