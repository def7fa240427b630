/- The law CalendarWork of layer 51: the plain law and the walk. -/
import Derived.Test.YtbceogoeoojdbaaCalLaws1
import Derived.Test.YtbceogoeoojdbaaCal12
namespace Go.Proofs.Ytbceogoeoojdbaa
open Go.RowKit Go.Sort
set_option linter.unusedVariables false

theorem ascI_near {most : Int} : ∀ {l : List (Int × Int)} {last : Int}, ascI most last l = true → ∀ i (h : i + 1 < l.length), (l[i]'(by omega)).2 < l[i + 1].1
  | [], _, _, i, h => by simp at h
  | [s], _, _, i, h => by simp at h
  | s :: t :: l, last, hasc, i, h => by
    rw [ascI_cons] at hasc
    cases i with
    | zero => have h2 := hasc.2.2.2; rw [ascI_cons] at h2; exact h2.1
    | succ j => exact ascI_near hasc.2.2.2 j (by simp at h ⊢; omega)
theorem wholeI_drop : ∀ {l : List (Int × Int)}, (∀ p ∈ l, p.1 < p.2) → ∀ j, 0 ≤ wholeI (l.drop j) ∧ wholeI (l.drop j) ≤ wholeI l
  | [], _, j => by simp [wholeI]
  | s :: l, h, j => by
    have h1 := h s (List.mem_cons_self ..)
    have h2 := wholeI_drop (fun p hp => h p (List.mem_cons_of_mem _ hp)) (l := l)
    cases j with
    | zero => have := h2 0; rw [List.drop_zero] at this ⊢; simp only [wholeI]; omega
    | succ i => have := h2 i; rw [List.drop_succ_cons]; simp only [wholeI]; omega
theorem work_adds {P : Int} {S D : List (Int × Int)} {x y k : Int} (hv : validB P S D = true) (h0 : 0 ≤ x) (h1 : x ≤ k) (h2 : k ≤ y) (h3 : y ≤ 1000000) :
    ∃ u v, workV P S D x k = (u, 0) ∧ workV P S D k y = (v, 0) ∧ workV P S D x y = (u + v, 0) ∧ 0 ≤ u ∧ 0 ≤ v ∧ u + v ≤ y - x ∧ u + v = cnt (openI P S D) x (y - x).toNat := by
  refine ⟨cnt (openI P S D) x (k - x).toNat, cnt (openI P S D) k (y - k).toNat, workV_eq hv (checkB_iff.2 ⟨h0, h1, by omega⟩), workV_eq hv (checkB_iff.2 ⟨by omega, h2, h3⟩), ?_, (cnt_bounds _ _ _).1, (cnt_bounds _ _ _).1, ?_, ?_⟩
  · rw [workV_eq hv (checkB_iff.2 ⟨h0, by omega, h3⟩), ← cnt_split _ _ h1, show (k - x).toNat + (y - k).toNat = (y - x).toNat from by omega]
  · rw [← cnt_split _ _ h1]
    have := (cnt_bounds (openI P S D) x ((k - x).toNat + (y - k).toNat)).2
    omega
  · rw [← cnt_split _ _ h1, show (k - x).toNat + (y - k).toNat = (y - x).toNat from by omega]
theorem runs_cnt {f : Int → Bool} {x y : Int} {L : List (Int × Int)} (h : Runs f x y L y) (hxy : x ≤ y) : wholeI L = cnt f x (y - x).toNat := by
  have e := cnt_inI h.1 (y - x).toNat (by omega)
  rw [show x - 1 + 1 = x from by omega] at e
  rw [← e]
  refine cnt_congr fun i hi => ?_
  rw [h.2, show decide (x ≤ x + (i : Int) ∧ x + (i : Int) < y) = true from by simp; omega, Bool.true_and]
theorem runs_first {P : Int} {S D : List (Int × Int)} {x y : Int} {L : List (Int × Int)} (hv : validB P S D = true) (h0 : 0 ≤ x) (hxy : x ≤ y) (hy : y ≤ 1000000) (h : Runs (openI P S D) x y L y) :
    (nextV P S D x = (0, 8) ∧ L = []) ∨ ∃ nx, nextV P S D x = (nx, 0) ∧ x ≤ nx ∧ openV P S D nx = true ∧ ((L = [] ∧ y ≤ nx) ∨ (nx < y ∧ ∃ e L', L = (nx, e) :: L')) := by
  rw [nextV_eq hv (timeB_iff.2 ⟨h0, by omega⟩)]
  rcases found_cases x (fun i => openI P S D (x + i)) (1000001 - x).toNat with ⟨m, hm, e, hp, hall⟩ | ⟨e, hall⟩
  · refine .inr ⟨x + m, e, by omega, ?_, ?_⟩
    · unfold openV; rw [hv, timeB_iff.2 ⟨by omega, by omega⟩]; exact hp
    · cases L with
      | nil =>
        refine .inl ⟨rfl, ?_⟩
        by_cases hc : x + (m : Int) < y
        · have := h.2 (x + m)
          rw [inI_nil, show decide (x ≤ x + (m : Int) ∧ x + (m : Int) < y) = true from by simp; omega, Bool.true_and, hp] at this
          cases this
        · omega
      | cons s L' =>
        have ha := h.1
        rw [ascI_cons] at ha
        obtain ⟨a1, a2, a3, a4⟩ := ha
        have hs := h.2 s.1
        rw [inI_cons, show decide (s.1 ≤ s.1 ∧ s.1 < s.2) = true from by simp; omega, Bool.true_or, show decide (x ≤ s.1 ∧ s.1 < y) = true from by simp; omega, Bool.true_and] at hs
        have hge : x + (m : Int) ≤ s.1 := by
          by_cases hc : x + (m : Int) ≤ s.1
          · exact hc
          · have := hall (s.1 - x).toNat (by omega)
            rw [show x + ((s.1 - x).toNat : Int) = s.1 from by omega, ← hs] at this
            cases this
        have hlt : x + (m : Int) < y := by omega
        have hin := h.2 (x + m)
        rw [show decide (x ≤ x + (m : Int) ∧ x + (m : Int) < y) = true from by simp; omega, Bool.true_and, hp] at hin
        have hle : s.1 ≤ x + (m : Int) := by
          by_cases hc : s.1 ≤ x + (m : Int)
          · exact hc
          · rw [inI_cons, show decide (s.1 ≤ x + (m : Int) ∧ x + (m : Int) < s.2) = false from by simp; omega, inI_ahead a4 (by omega)] at hin
            cases hin
        refine .inr ⟨hlt, s.2, L', ?_⟩
        rw [show x + (m : Int) = s.1 from by omega]
  · refine .inl ⟨e, ?_⟩
    cases L with
    | nil => rfl
    | cons s L' =>
      have ha := h.1
      rw [ascI_cons] at ha
      obtain ⟨a1, a2, a3, a4⟩ := ha
      have hs := h.2 s.1
      rw [inI_cons, show decide (s.1 ≤ s.1 ∧ s.1 < s.2) = true from by simp; omega, Bool.true_or, show decide (x ≤ s.1 ∧ s.1 < y) = true from by simp; omega, Bool.true_and] at hs
      have := hall (s.1 - x).toNat (by omega)
      rw [show x + ((s.1 - x).toNat : Int) = s.1 from by omega, ← hs] at this
      cases this

section
variable {P : Int} {A B : Option Addr} {n c m d : Nat} {S D : List (Int × Int)} {w : World}
set_option maxRecDepth 100000 in
set_option maxHeartbeats 8000000 in
theorem calWork_law (x y z k : Int) (h : IsCal w P A n c B m d S D) : Yields Try.prog 14 #[CalV P A n c B m d, askV x y z, .int .i64 k] w (.bool true) := by
  apply Yields.ret
  have FW := fun W hW => few_any (w := W) (h.of hW)
  generalize (decide (S.length ≤ 25) && decide (D.length ≤ 25)) = few at *
  cases few
  · clear h
    go_enter Try.func14, Try.ntmps14
    go_wp2_with fail
    refine (awake51_any _).calls.mono ?_
    rintro e _ ⟨rfl, x1, rfl⟩
    go_wp2_with fail
    refine (FW _ (by (repeat (first | (with_reducible exact SinceOf.refl _) | (with_reducible assumption) | (with_reducible refine SinceOf.alloc ?_ _) | (with_reducible refine SinceOf.drew ?_) | (with_reducible refine SinceOf.drewN ?_ _) | (with_reducible refine SinceOf.later ?_ _) | (with_reducible refine SinceOf.further ?_ _) | (with_reducible refine SinceOf.setCell ?_ (by first | exact Nat.le_refl _ | (simp; done) | omega | (simp; omega)) _))))).calls.mono ?_
    rintro e _ ⟨rfl, x2, rfl⟩
    go_wp2_with fail
    go_returns
    exact ⟨rfl, by (repeat (first | (with_reducible exact SinceOf.refl _) | (with_reducible assumption) | (with_reducible refine SinceOf.alloc ?_ _) | (with_reducible refine SinceOf.drew ?_) | (with_reducible refine SinceOf.drewN ?_ _) | (with_reducible refine SinceOf.later ?_ _) | (with_reducible refine SinceOf.further ?_ _) | (with_reducible refine SinceOf.setCell ?_ (by first | exact Nat.le_refl _ | (simp; done) | omega | (simp; omega)) _)))⟩
  · have V := h.refValid (v := validB P S D) rfl
    cases hv : validB P S D
    · rw [hv] at V
      clear h hv
      go_enter Try.func14, Try.ntmps14
      go_wp2_with fail
      refine (awake51_any _).calls.mono ?_
      rintro e _ ⟨rfl, x1, rfl⟩
      go_wp2_with fail
      refine (FW _ (by (repeat (first | (with_reducible exact SinceOf.refl _) | (with_reducible assumption) | (with_reducible refine SinceOf.alloc ?_ _) | (with_reducible refine SinceOf.drew ?_) | (with_reducible refine SinceOf.drewN ?_ _) | (with_reducible refine SinceOf.later ?_ _) | (with_reducible refine SinceOf.further ?_ _) | (with_reducible refine SinceOf.setCell ?_ (by first | exact Nat.le_refl _ | (simp; done) | omega | (simp; omega)) _))))).calls.mono ?_
      rintro e _ ⟨rfl, x2, rfl⟩
      go_wp2_with fail
      refine (V _ (by (repeat (first | (with_reducible exact SinceOf.refl _) | (with_reducible assumption) | (with_reducible refine SinceOf.alloc ?_ _) | (with_reducible refine SinceOf.drew ?_) | (with_reducible refine SinceOf.drewN ?_ _) | (with_reducible refine SinceOf.later ?_ _) | (with_reducible refine SinceOf.further ?_ _) | (with_reducible refine SinceOf.setCell ?_ (by first | exact Nat.le_refl _ | (simp; done) | omega | (simp; omega)) _))))).calls.mono ?_
      rintro e _ ⟨rfl, x3, rfl⟩
      go_wp2_with fail
      go_returns
      exact ⟨rfl, by (repeat (first | (with_reducible exact SinceOf.refl _) | (with_reducible assumption) | (with_reducible refine SinceOf.alloc ?_ _) | (with_reducible refine SinceOf.drew ?_) | (with_reducible refine SinceOf.drewN ?_ _) | (with_reducible refine SinceOf.later ?_ _) | (with_reducible refine SinceOf.further ?_ _) | (with_reducible refine SinceOf.setCell ?_ (by first | exact Nat.le_refl _ | (simp; done) | omega | (simp; omega)) _)))⟩
    · rw [hv] at V
      have key : ((decide (x < 0) = true) ∨ (decide (x < 0) = false ∧ decide (k < x) = true) ∨ (decide (x < 0) = false ∧ decide (k < x) = false ∧ decide (y < k) = true) ∨ (decide (x < 0) = false ∧ decide (k < x) = false ∧ decide (y < k) = false ∧ decide (20000 < y) = true)) ∨
          ((decide (x < 0) = false ∧ decide (k < x) = false ∧ decide (y < k) = false ∧ decide (20000 < y) = false) ∧ 0 ≤ x ∧ x ≤ k ∧ k ≤ y ∧ y ≤ 1000000) := by
        simp only [decide_eq_true_eq, decide_eq_false_iff_not]; omega
      rcases key with key | ⟨⟨b1, b2, b3, b4⟩, g1, g2, g3, g4⟩
      · rcases key with b1 | ⟨b1, b2⟩ | ⟨b1, b2, b3⟩ | ⟨b1, b2, b3, b4⟩
        all_goals
          clear h hv
          go_enter Try.func14, Try.ntmps14
          go_wp2_with fail
          refine (awake51_any _).calls.mono ?_
          rintro e _ ⟨rfl, x1, rfl⟩
          go_wp2_with fail
          refine (FW _ (by (repeat (first | (with_reducible exact SinceOf.refl _) | (with_reducible assumption) | (with_reducible refine SinceOf.alloc ?_ _) | (with_reducible refine SinceOf.drew ?_) | (with_reducible refine SinceOf.drewN ?_ _) | (with_reducible refine SinceOf.later ?_ _) | (with_reducible refine SinceOf.further ?_ _) | (with_reducible refine SinceOf.setCell ?_ (by first | exact Nat.le_refl _ | (simp; done) | omega | (simp; omega)) _))))).calls.mono ?_
          rintro e _ ⟨rfl, x2, rfl⟩
          go_wp2_with fail
          refine (V _ (by (repeat (first | (with_reducible exact SinceOf.refl _) | (with_reducible assumption) | (with_reducible refine SinceOf.alloc ?_ _) | (with_reducible refine SinceOf.drew ?_) | (with_reducible refine SinceOf.drewN ?_ _) | (with_reducible refine SinceOf.later ?_ _) | (with_reducible refine SinceOf.further ?_ _) | (with_reducible refine SinceOf.setCell ?_ (by first | exact Nat.le_refl _ | (simp; done) | omega | (simp; omega)) _))))).calls.mono ?_
          rintro e _ ⟨rfl, x3, rfl⟩
          go_wp2_with fail
          go_returns
          exact ⟨rfl, by (repeat (first | (with_reducible exact SinceOf.refl _) | (with_reducible assumption) | (with_reducible refine SinceOf.alloc ?_ _) | (with_reducible refine SinceOf.drew ?_) | (with_reducible refine SinceOf.drewN ?_ _) | (with_reducible refine SinceOf.later ?_ _) | (with_reducible refine SinceOf.further ?_ _) | (with_reducible refine SinceOf.setCell ?_ (by first | exact Nat.le_refl _ | (simp; done) | omega | (simp; omega)) _)))⟩
      · obtain ⟨u, v, w1, w2, w3, q1, q2, q3, q4⟩ := work_adds (P := P) (S := S) (D := D) hv g1 g2 g3 g4
        have C1 := fun W hW => work_law (w := W) x k (h.of hW)
        have C2 := fun W hW => work_law (w := W) k y (h.of hW)
        have C3 := fun W hW => work_law (w := W) x y (h.of hW)
        have C4 := fun W hW => spans_any (w := W) x y (h.of hW)
        have C5 := fun W hW => next_any (w := W) x (h.of hW)
        have O := fun t W hW => open_any (w := W) t (h.of hW)
        have RF := fun L => runs_first (P := P) (S := S) (D := D) (x := x) (y := y) (L := L) hv g1 (by omega) g4
        rw [w1] at C1
        rw [w2] at C2
        rw [w3] at C3
        simp only [pairV_eq] at C1 C2 C3
        have HV := Lib.hid (And.intro hv q4)
        have hu0 : decide (u + v < 0) = false := by simp; omega
        have hu1 : decide (y - x < u + v) = false := by simp; omega
        clear h hv w1 w2 w3 q4
        go_enter Try.func14, Try.ntmps14
        go_wp2_with fail
        refine (awake51_any _).calls.mono ?_
        rintro e _ ⟨rfl, x1, rfl⟩
        go_wp2_with fail
        refine (FW _ (by (repeat (first | (with_reducible exact SinceOf.refl _) | (with_reducible assumption) | (with_reducible refine SinceOf.alloc ?_ _) | (with_reducible refine SinceOf.drew ?_) | (with_reducible refine SinceOf.drewN ?_ _) | (with_reducible refine SinceOf.later ?_ _) | (with_reducible refine SinceOf.further ?_ _) | (with_reducible refine SinceOf.setCell ?_ (by first | exact Nat.le_refl _ | (simp; done) | omega | (simp; omega)) _))))).calls.mono ?_
        rintro e _ ⟨rfl, x2, rfl⟩
        go_wp2_with fail
        refine (V _ (by (repeat (first | (with_reducible exact SinceOf.refl _) | (with_reducible assumption) | (with_reducible refine SinceOf.alloc ?_ _) | (with_reducible refine SinceOf.drew ?_) | (with_reducible refine SinceOf.drewN ?_ _) | (with_reducible refine SinceOf.later ?_ _) | (with_reducible refine SinceOf.further ?_ _) | (with_reducible refine SinceOf.setCell ?_ (by first | exact Nat.le_refl _ | (simp; done) | omega | (simp; omega)) _))))).calls.mono ?_
        rintro e _ ⟨rfl, x3, rfl⟩
        go_wp2_with fail
        refine (own_any _ _ _ _ _ _ _ _).calls.mono ?_
        rintro e _ ⟨rfl, x4, rfl⟩
        go_wp2_with fail
        refine (C1 _ (by (repeat (first | (with_reducible exact SinceOf.refl _) | (with_reducible assumption) | (with_reducible refine SinceOf.alloc ?_ _) | (with_reducible refine SinceOf.drew ?_) | (with_reducible refine SinceOf.drewN ?_ _) | (with_reducible refine SinceOf.later ?_ _) | (with_reducible refine SinceOf.further ?_ _) | (with_reducible refine SinceOf.setCell ?_ (by first | exact Nat.le_refl _ | (simp; done) | omega | (simp; omega)) _))))).calls.mono ?_
        rintro e _ ⟨rfl, x5, rfl⟩
        go_wp2_with fail
        refine (C2 _ (by (repeat (first | (with_reducible exact SinceOf.refl _) | (with_reducible assumption) | (with_reducible refine SinceOf.alloc ?_ _) | (with_reducible refine SinceOf.drew ?_) | (with_reducible refine SinceOf.drewN ?_ _) | (with_reducible refine SinceOf.later ?_ _) | (with_reducible refine SinceOf.further ?_ _) | (with_reducible refine SinceOf.setCell ?_ (by first | exact Nat.le_refl _ | (simp; done) | omega | (simp; omega)) _))))).calls.mono ?_
        rintro e _ ⟨rfl, x6, rfl⟩
        go_wp2_with fail
        refine (C3 _ (by (repeat (first | (with_reducible exact SinceOf.refl _) | (with_reducible assumption) | (with_reducible refine SinceOf.alloc ?_ _) | (with_reducible refine SinceOf.drew ?_) | (with_reducible refine SinceOf.drewN ?_ _) | (with_reducible refine SinceOf.later ?_ _) | (with_reducible refine SinceOf.further ?_ _) | (with_reducible refine SinceOf.setCell ?_ (by first | exact Nat.le_refl _ | (simp; done) | omega | (simp; omega)) _))))).calls.mono ?_
        rintro e _ ⟨rfl, x7, rfl⟩
        go_wp2_with fail
        refine (C4 _ (by (repeat (first | (with_reducible exact SinceOf.refl _) | (with_reducible assumption) | (with_reducible refine SinceOf.alloc ?_ _) | (with_reducible refine SinceOf.drew ?_) | (with_reducible refine SinceOf.drewN ?_ _) | (with_reducible refine SinceOf.later ?_ _) | (with_reducible refine SinceOf.further ?_ _) | (with_reducible refine SinceOf.setCell ?_ (by first | exact Nat.le_refl _ | (simp; done) | omega | (simp; omega)) _))))).mono ?_
        rintro e _ ⟨⟨y1, rfl⟩, err, A', n', c', L, rfl, rfl, hL, hlen, hr⟩
        obtain ⟨rfl, hruns⟩ : err = 0 ∧ Runs (openI P S D) x y L y := by
          rcases hr with ⟨hf, -, -⟩ | ⟨-, -, h3, h4⟩
          · rw [HV.out.1, checkB_iff.2 ⟨g1, by omega, g4⟩] at hf; cases hf
          · exact ⟨h3, h4⟩
        have RF := RF L hruns
        have hwh := runs_cnt hruns (by omega)
        rw [← HV.out.2] at hwh
        have HL := Lib.hid (And.intro hL (And.intro hruns (And.intro hwh RF)))
        clear hL hr hruns RF hwh
        go_wp2_with fail
        go_loopg [12, 124] L.length (fun gas s12 s124 wr => ∃ (j : Nat), j ≤ L.length ∧ L.length - j ≤ gas ∧ s12 = .int .i64 (wholeI (L.drop j)) ∧ s124 = .int .i64 j ∧ LaterOf y1.wd wr)
        case atStart => exact ⟨0, by omega, by omega, by rw [List.drop_zero, HL.out.2.2.1], rfl, by (repeat (first | (with_reducible exact LaterOf.refl _) | (with_reducible refine LaterOf.alloc ?_ _) | (with_reducible refine LaterOf.drew ?_) | (with_reducible refine LaterOf.drewN ?_ _) | (with_reducible refine LaterOf.later ?_ _) | (with_reducible refine LaterOf.setCell ?_ (by first | exact Nat.le_refl _ | (simp; done) | omega | (simp; omega)) _)))⟩
        case round =>
          obtain ⟨j, hj, hgas, rfl, rfl, ⟨z, rfl⟩⟩ := hrel
          by_cases hlt : j < L.length
          · have ha := HL.out.2.1.1
            have hmem := ascI_mem ha
            have hwd := wholeI_drop (fun p hp => (hmem p hp).2.1) (j + 1)
            rw [HL.out.2.2.1] at hwd
            obtain ⟨m0, m1, m2⟩ := hmem L[j] (List.getElem_mem hlt)
            have hst : wholeI (L.drop j) = (L[j].2 - L[j].1) + wholeI (L.drop (j + 1)) := by rw [List.drop_eq_getElem_cons hlt]; rfl
            have hnear := fun h => ascI_near ha (j - 1) (by omega : j - 1 + 1 < L.length)
            have hr := (HL.out.1.of (LaterOf.since ⟨z, rfl⟩)).at_ (by omega)
            obtain ⟨g, off, rfl, hr⟩ := hr
            have hO := hr.there
            have k0 := hr.v0 j hlt
            have k1 := hr.v1 j hlt
            have kp := hr.v1 (j - 1) (by omega)
            have hnr : 0 < j → (L[j - 1]'(by omega)).2 < L[j].1 := fun h => by have := ascI_near ha (j - 1) (by omega); simpa only [Nat.sub_add_cancel h] using this
            obtain ⟨⟨p0, p1⟩, hp⟩ : ∃ q, q = L[j - 1]'(by omega) := ⟨_, rfl⟩
            obtain ⟨⟨s0, s1⟩, hs⟩ : ∃ q, q = L[j] := ⟨_, rfl⟩
            rw [← hs] at k0 k1 hst hnr m0 m1 m2
            rw [← hp] at kp hnr
            simp only at k0 k1 kp hst hnr m0 m1 m2
            rw [hst]
            obtain ⟨R, hR⟩ : ∃ R, R = wholeI (L.drop (j + 1)) := ⟨_, rfl⟩
            rw [← hR] at hwd ⊢
            have HR := Lib.hid hR
            clear hR
            have f0 : decide (s0 < x) = false := by simp; omega
            have f1 : decide (s1 ≤ s0) = false := by simp; omega
            have f2 : decide (y < s1) = false := by simp; omega
            clear ha hmem hst hnear hr hs hp
            have hcase : j = 0 ∨ (0 < j ∧ decide (0 < j) = true ∧ decide (s0 ≤ p1) = false) := by
              by_cases hj0 : j = 0
              · exact .inl hj0
              · exact .inr ⟨by omega, by simp; omega, by have := hnr (by omega); simp; omega⟩
            clear hnr
            rcases hcase with rfl | ⟨p2, p3, p4⟩
            · clear kp
              simp only [Nat.zero_mul, Nat.add_zero] at k0 k1
              go_wp2_with fail
              refine region_later (by kernel_rfl) (by kernel_rfl) ?_
              repeat (go_big_quiet_step (fail))
              refine wpQuiet_nil ?_
              rintro _ ⟨z2, rfl⟩
              go_wp2_with fail
              go_roundg (L.length - (0 + 1))
              case measure => omega
              case rel => exact ⟨0 + 1, hlt, Nat.le_refl _, by rw [show s1 - s0 + R - (s1 - s0) = R from by omega, HR.out], by go_num, by (repeat (first | (with_reducible exact LaterOf.refl _) | (with_reducible refine LaterOf.alloc ?_ _) | (with_reducible refine LaterOf.drew ?_) | (with_reducible refine LaterOf.drewN ?_ _) | (with_reducible refine LaterOf.later ?_ _) | (with_reducible refine LaterOf.setCell ?_ (by first | exact Nat.le_refl _ | (simp; done) | omega | (simp; omega)) _)))⟩
            · go_wp2_with fail
              refine region_later (by kernel_rfl) (by kernel_rfl) ?_
              repeat (go_big_quiet_step (fail))
              refine wpQuiet_nil ?_
              rintro _ ⟨z2, rfl⟩
              go_wp2_with fail
              go_roundg (L.length - (j + 1))
              case measure => omega
              case rel => exact ⟨j + 1, hlt, Nat.le_refl _, by rw [show s1 - s0 + R - (s1 - s0) = R from by omega, HR.out], by go_num, by (repeat (first | (with_reducible exact LaterOf.refl _) | (with_reducible refine LaterOf.alloc ?_ _) | (with_reducible refine LaterOf.drew ?_) | (with_reducible refine LaterOf.drewN ?_ _) | (with_reducible refine LaterOf.later ?_ _) | (with_reducible refine LaterOf.setCell ?_ (by first | exact Nat.le_refl _ | (simp; done) | omega | (simp; omega)) _)))⟩
          · have hjl : j = L.length := by omega
            have hw0 : wholeI (L.drop j) = 0 := by rw [hjl, List.drop_length]; rfl
            rw [hw0]
            have hdone := HL.out.2.2.2
            rcases hdone with ⟨e1, rfl⟩ | ⟨nx, e1, e2, e3, ⟨rfl, e5⟩ | ⟨e4, ee, L', rfl⟩⟩
            · rw [e1] at C5
              simp only [pairV_eq] at C5
              clear e1
              go_wp2_with fail
              refine (C5 _ (by (repeat (first | (with_reducible exact SinceOf.refl _) | (with_reducible assumption) | (with_reducible refine SinceOf.alloc ?_ _) | (with_reducible refine SinceOf.drew ?_) | (with_reducible refine SinceOf.drewN ?_ _) | (with_reducible refine SinceOf.later ?_ _) | (with_reducible refine SinceOf.further ?_ _) | (with_reducible refine SinceOf.setCell ?_ (by first | exact Nat.le_refl _ | (simp; done) | omega | (simp; omega)) _))))).calls.mono ?_
              rintro e _ ⟨rfl, z2, rfl⟩
              go_wp2_with fail
              go_returns
              exact ⟨by simp, by (repeat (first | (with_reducible exact SinceOf.refl _) | (with_reducible assumption) | (with_reducible refine SinceOf.alloc ?_ _) | (with_reducible refine SinceOf.drew ?_) | (with_reducible refine SinceOf.drewN ?_ _) | (with_reducible refine SinceOf.later ?_ _) | (with_reducible refine SinceOf.further ?_ _) | (with_reducible refine SinceOf.setCell ?_ (by first | exact Nat.le_refl _ | (simp; done) | omega | (simp; omega)) _)))⟩
            · rw [e1] at C5
              have O := O nx
              rw [e3] at O
              simp only [pairV_eq] at C5
              have f0 : decide (x ≤ nx) = true := by simp; omega
              have f1 : decide (y ≤ nx) = true := by simp; omega
              clear e1 e3
              go_wp2_with fail
              refine (C5 _ (by (repeat (first | (with_reducible exact SinceOf.refl _) | (with_reducible assumption) | (with_reducible refine SinceOf.alloc ?_ _) | (with_reducible refine SinceOf.drew ?_) | (with_reducible refine SinceOf.drewN ?_ _) | (with_reducible refine SinceOf.later ?_ _) | (with_reducible refine SinceOf.further ?_ _) | (with_reducible refine SinceOf.setCell ?_ (by first | exact Nat.le_refl _ | (simp; done) | omega | (simp; omega)) _))))).calls.mono ?_
              rintro e _ ⟨rfl, z2, rfl⟩
              go_wp2_with fail
              refine (O _ (by (repeat (first | (with_reducible exact SinceOf.refl _) | (with_reducible assumption) | (with_reducible refine SinceOf.alloc ?_ _) | (with_reducible refine SinceOf.drew ?_) | (with_reducible refine SinceOf.drewN ?_ _) | (with_reducible refine SinceOf.later ?_ _) | (with_reducible refine SinceOf.further ?_ _) | (with_reducible refine SinceOf.setCell ?_ (by first | exact Nat.le_refl _ | (simp; done) | omega | (simp; omega)) _))))).calls.mono ?_
              rintro e _ ⟨rfl, z3, rfl⟩
              go_wp2_with fail
              go_returns
              exact ⟨by simp [*], by (repeat (first | (with_reducible exact SinceOf.refl _) | (with_reducible assumption) | (with_reducible refine SinceOf.alloc ?_ _) | (with_reducible refine SinceOf.drew ?_) | (with_reducible refine SinceOf.drewN ?_ _) | (with_reducible refine SinceOf.later ?_ _) | (with_reducible refine SinceOf.further ?_ _) | (with_reducible refine SinceOf.setCell ?_ (by first | exact Nat.le_refl _ | (simp; done) | omega | (simp; omega)) _)))⟩
            · rw [e1] at C5
              have O := O nx
              rw [e3] at O
              simp only [pairV_eq] at C5
              have f0 : decide (x ≤ nx) = true := by simp; omega
              have f1 : decide (y ≤ nx) = false := by simp; omega
              have hr := (HL.out.1.of (LaterOf.since ⟨z, rfl⟩)).at_ (by simp)
              obtain ⟨g, off, rfl, hr⟩ := hr
              have hO := hr.there
              have k0 := hr.v0 0 (by simp)
              simp only [Nat.zero_mul, Nat.add_zero, List.getElem_cons_zero] at k0
              have hn : ((((nx, ee) :: L').length : Int) == 0) = false := by simp; omega
              clear e1 e3 hr
              go_wp2_with fail
              refine (C5 _ (by (repeat (first | (with_reducible exact SinceOf.refl _) | (with_reducible assumption) | (with_reducible refine SinceOf.alloc ?_ _) | (with_reducible refine SinceOf.drew ?_) | (with_reducible refine SinceOf.drewN ?_ _) | (with_reducible refine SinceOf.later ?_ _) | (with_reducible refine SinceOf.further ?_ _) | (with_reducible refine SinceOf.setCell ?_ (by first | exact Nat.le_refl _ | (simp; done) | omega | (simp; omega)) _))))).calls.mono ?_
              rintro e _ ⟨rfl, z2, rfl⟩
              go_wp2_with fail
              refine (O _ (by (repeat (first | (with_reducible exact SinceOf.refl _) | (with_reducible assumption) | (with_reducible refine SinceOf.alloc ?_ _) | (with_reducible refine SinceOf.drew ?_) | (with_reducible refine SinceOf.drewN ?_ _) | (with_reducible refine SinceOf.later ?_ _) | (with_reducible refine SinceOf.further ?_ _) | (with_reducible refine SinceOf.setCell ?_ (by first | exact Nat.le_refl _ | (simp; done) | omega | (simp; omega)) _))))).calls.mono ?_
              rintro e _ ⟨rfl, z3, rfl⟩
              go_wp2_with fail
              go_returns
              exact ⟨by simp [*], by (repeat (first | (with_reducible exact SinceOf.refl _) | (with_reducible assumption) | (with_reducible refine SinceOf.alloc ?_ _) | (with_reducible refine SinceOf.drew ?_) | (with_reducible refine SinceOf.drewN ?_ _) | (with_reducible refine SinceOf.later ?_ _) | (with_reducible refine SinceOf.further ?_ _) | (with_reducible refine SinceOf.setCell ?_ (by first | exact Nat.le_refl _ | (simp; done) | omega | (simp; omega)) _)))⟩
end
end Go.Proofs.Ytbceogoeoojdbaa
