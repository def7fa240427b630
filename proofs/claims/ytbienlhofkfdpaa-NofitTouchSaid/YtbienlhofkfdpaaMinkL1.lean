/- Layer 15: what a sum is; the walk of MinkowskiSum. -/
import Derived.Test.YtbienlhofkfdpaaMinkR3
import Derived.Test.YtbienlhofkfdpaaMink14
namespace Go.Proofs.Ytbienlhofkfdpaa
open Go.RowKit Go.Sort
set_option linter.unusedVariables false
set_option linter.unusedSimpArgs false
attribute [local go_sem ↓] Go.wp_at_zero Go.wp_at_succ

/-- A valid ring that begins with its least vertex. -/
def CanonR (u : List Pt) : Prop := Conv15 u ∧ ∀ k, k < u.length → (∀ j, j < u.length → ¬ lexy (at0 u j) (at0 u k)) → k = 0
theorem hullY_canon {P u : List Pt} (hu : HullY P u) (hn : u.all inV = true) (hl : u.length ≤ 160) : CanonR u := by
  have h3 := hu.hull.three
  refine ⟨⟨h3, hl, fun p hp => inV_near.1 (List.all_eq_true.1 hn p hp), hu.hull.cv⟩, fun k hk hm => ?_⟩
  by_cases k0 : k = 0
  · exact k0
  · exfalso
    rcases hu.first _ (hu.hull.sub _ (at0_mem hk)) with q | q
    · exact hu.hull.distinct (i := 0) (k := k) (by omega) hk (by omega) q
    · exact hm 0 (by omega) q
theorem checked_cases (u : List Pt) : (checkedV u = (u, 0) ∧ u.all inV = true ∧ u.length ≤ 160) ∨ (checkedV u = ([], 9) ∧ 160 < u.length) ∨ (checkedV u = ([], 2) ∧ u.all inV = false) := by
  unfold checkedV
  cases h : u.all inV
  · right; right; exact ⟨rfl, rfl⟩
  · by_cases h2 : 160 < u.length
    · right; left; rw [if_pos rfl, if_pos h2]; exact ⟨rfl, h2⟩
    · left; rw [if_pos rfl, if_neg h2]; exact ⟨rfl, rfl, by omega⟩
theorem SumV.ok {r s : List Pt} {out : List Pt × Int} (h : SumV r s out) (h0 : out.2 = 0) : CanonR out.1 ∧ HullY (sums2 r s) out.1 ∧ validB r = true ∧ validB s = true := by
  unfold SumV at h
  split at h
  · rename_i hv
    obtain ⟨u, hu, rfl⟩ := h
    rcases checked_cases u with ⟨e, a, b⟩ | ⟨e, _⟩ | ⟨e, _⟩
    · rw [e]; exact ⟨hullY_canon hu a b, hu, hv.1, hv.2⟩
    · rw [e] at h0; cases h0
    · rw [e] at h0; cases h0
  · rw [h] at h0; cases h0
theorem SumV.len {r s : List Pt} {out : List Pt × Int} (h : SumV r s out) : out.1.length ≤ 160 := by
  unfold SumV at h
  split at h
  · obtain ⟨u, hu, rfl⟩ := h
    rcases checked_cases u with ⟨e, a, b⟩ | ⟨e, _⟩ | ⟨e, _⟩ <;> rw [e]
    · exact b
    · exact Nat.zero_le _
    · exact Nat.zero_le _
  · rw [h]; exact Nat.zero_le _
set_option maxRecDepth 100000 in
theorem canonical_any (A : Option Addr) (c : Nat) (r : List (Int × Int)) (w : World) (h : IsVecs w A c r) (hC : CanonR r) (hc : r.length ≤ c) :
    Calls Try.prog 19 #[.slice A r.length c] w fun e w' => ∃ A' c', e = .returned (.slice A' r.length c') ∧ IsVecs w' A' c' r ∧ SinceOf w w' := by
  have h3 := hC.1.1
  have h160 := hC.1.2.1
  have V := fun W (hW : SinceOf w W) => valid_any A c r W (h.of hW) (by omega)
  rw [validB_iff.2 hC.1] at V
  have B := fun W (hW : SinceOf w W) => begun_any A c r W (h.of hW) (by omega) (by omega) hc
  have HC := Lib.hid hC
  clear hC h
  go_enter Try.func19, Try.ntmps19
  go_wp2_with fail
  refine (V _ (by (repeat (first | (with_reducible exact SinceOf.refl _) | (with_reducible assumption) | (with_reducible refine SinceOf.alloc ?_ _) | (with_reducible refine SinceOf.drew ?_) | (with_reducible refine SinceOf.drewN ?_ _) | (with_reducible refine SinceOf.later ?_ _) | (with_reducible refine SinceOf.further ?_ _) | (with_reducible refine SinceOf.setCell ?_ (by first | exact Nat.le_refl _ | (simp; done) | omega | (simp; omega)) _))))).calls.mono ?_
  rintro e _ ⟨rfl, x1, rfl⟩
  go_wp2_with fail
  refine (B _ (by (repeat (first | (with_reducible exact SinceOf.refl _) | (with_reducible assumption) | (with_reducible refine SinceOf.alloc ?_ _) | (with_reducible refine SinceOf.drew ?_) | (with_reducible refine SinceOf.drewN ?_ _) | (with_reducible refine SinceOf.later ?_ _) | (with_reducible refine SinceOf.further ?_ _) | (with_reducible refine SinceOf.setCell ?_ (by first | exact Nat.le_refl _ | (simp; done) | omega | (simp; omega)) _))))).mono ?_
  rintro e _ ⟨A', c', k, rfl, hk, hkm, ho, ⟨x2, rfl⟩⟩
  have HO := Lib.hid (show IsVecs x2.wd A' c' r by
    have := HC.out.2 k hk hkm
    rw [this, rotL_zero] at ho
    exact ho.isRow encV_len)
  clear ho hkm V B
  go_wp2_with fail
  go_returns
  exact ⟨A', c', rfl, HO.out, by (repeat (first | (with_reducible exact SinceOf.refl _) | (with_reducible assumption) | (with_reducible refine SinceOf.alloc ?_ _) | (with_reducible refine SinceOf.drew ?_) | (with_reducible refine SinceOf.drewN ?_ _) | (with_reducible refine SinceOf.later ?_ _) | (with_reducible refine SinceOf.further ?_ _) | (with_reducible refine SinceOf.setCell ?_ (by first | exact Nat.le_refl _ | (simp; done) | omega | (simp; omega)) _)))⟩
set_option maxRecDepth 100000 in
set_option maxHeartbeats 8000000 in
theorem minkowskiSum_any (A B : Option Addr) (c d : Nat) (r s : List (Int × Int)) (w : World) (h : IsVecs w A c r) (h2 : IsVecs w B d s) (hc : r.length ≤ c) (hd : s.length ≤ d) (hl1 : r.length < 4611686018427387904) (hl2 : s.length < 4611686018427387904) : Yields Try.prog 3 #[.slice A r.length c, .slice B s.length d] w (.bool true) := by
  apply Yields.ret
  have F1 := few15_any A r.length c
  have F2 := few15_any B s.length d
  have SU := fun W (hW : SinceOf w W) => sum_any A B c d r s W (h.of hW) (h2.of hW) hc hd hl1 hl2
  have RU := fun W (hW : SinceOf w W) => refSum_any A B c d r s W (h.of hW) (h2.of hW) hl1 hl2
  clear h h2
  by_cases f1 : r.length ≤ 20
  case neg =>
    rw [decide_eq_false f1] at F1
    clear f1 SU RU
    go_enter Try.func3, Try.ntmps3
    go_wp2_with fail
    refine (awake15_any _).mono ?_
    rintro e _ ⟨rfl, x1, rfl⟩
    go_wp2_with fail
    refine (F1 _).calls.mono ?_
    rintro e _ ⟨rfl, x2, rfl⟩
    go_wp2_with fail
    go_returns
    exact ⟨rfl, by (repeat (first | (with_reducible exact SinceOf.refl _) | (with_reducible assumption) | (with_reducible refine SinceOf.alloc ?_ _) | (with_reducible refine SinceOf.drew ?_) | (with_reducible refine SinceOf.drewN ?_ _) | (with_reducible refine SinceOf.later ?_ _) | (with_reducible refine SinceOf.further ?_ _) | (with_reducible refine SinceOf.setCell ?_ (by first | exact Nat.le_refl _ | (simp; done) | omega | (simp; omega)) _)))⟩
  rw [decide_eq_true f1] at F1
  by_cases f2 : s.length ≤ 20
  case neg =>
    rw [decide_eq_false f2] at F2
    clear f1 f2 SU RU
    go_enter Try.func3, Try.ntmps3
    go_wp2_with fail
    refine (awake15_any _).mono ?_
    rintro e _ ⟨rfl, x1, rfl⟩
    go_wp2_with fail
    refine (F1 _).calls.mono ?_
    rintro e _ ⟨rfl, x2, rfl⟩
    go_wp2_with fail
    refine (F2 _).calls.mono ?_
    rintro e _ ⟨rfl, x3, rfl⟩
    go_wp2_with fail
    go_returns
    exact ⟨rfl, by (repeat (first | (with_reducible exact SinceOf.refl _) | (with_reducible assumption) | (with_reducible refine SinceOf.alloc ?_ _) | (with_reducible refine SinceOf.drew ?_) | (with_reducible refine SinceOf.drewN ?_ _) | (with_reducible refine SinceOf.later ?_ _) | (with_reducible refine SinceOf.further ?_ _) | (with_reducible refine SinceOf.setCell ?_ (by first | exact Nat.le_refl _ | (simp; done) | omega | (simp; omega)) _)))⟩
  rw [decide_eq_true f2] at F2
  clear f1 f2
  go_enter Try.func3, Try.ntmps3
  go_wp2_with fail
  refine (awake15_any _).mono ?_
  rintro e _ ⟨rfl, x1, rfl⟩
  go_wp2_with fail
  refine (F1 _).calls.mono ?_
  rintro e _ ⟨rfl, x2, rfl⟩
  go_wp2_with fail
  refine (F2 _).calls.mono ?_
  rintro e _ ⟨rfl, x3, rfl⟩
  clear F1 F2
  go_wp2_with fail
  refine (SU _ (by (repeat (first | (with_reducible exact SinceOf.refl _) | (with_reducible assumption) | (with_reducible refine SinceOf.alloc ?_ _) | (with_reducible refine SinceOf.drew ?_) | (with_reducible refine SinceOf.drewN ?_ _) | (with_reducible refine SinceOf.later ?_ _) | (with_reducible refine SinceOf.further ?_ _) | (with_reducible refine SinceOf.setCell ?_ (by first | exact Nat.le_refl _ | (simp; done) | omega | (simp; omega)) _))))).mono ?_
  rintro e _ ⟨A1, c1, out, rfl, hs1, hv1, hc1, -, ⟨x4, rfl⟩⟩
  have HV1 := Lib.hid (And.intro hs1 hv1)
  clear hs1 hv1 SU
  go_wp2_with fail
  refine (RU _ (by (repeat (first | (with_reducible exact SinceOf.refl _) | (with_reducible assumption) | (with_reducible refine SinceOf.alloc ?_ _) | (with_reducible refine SinceOf.drew ?_) | (with_reducible refine SinceOf.drewN ?_ _) | (with_reducible refine SinceOf.later ?_ _) | (with_reducible refine SinceOf.further ?_ _) | (with_reducible refine SinceOf.setCell ?_ (by first | exact Nat.le_refl _ | (simp; done) | omega | (simp; omega)) _))))).mono ?_
  rintro e _ ⟨A2, c2, out2, rfl, hs2, hv2, hc2, -, ⟨x5, rfl⟩⟩
  obtain rfl : out2 = out := hs2.unique HV1.out.1
  have hlen := HV1.out.1.len
  have SM := same08_any A1 A2 c1 c2 out2.1 out2.1 x5.wd (HV1.out.2.of (by (repeat (first | (with_reducible exact SinceOf.refl _) | (with_reducible assumption) | (with_reducible refine SinceOf.alloc ?_ _) | (with_reducible refine SinceOf.drew ?_) | (with_reducible refine SinceOf.drewN ?_ _) | (with_reducible refine SinceOf.later ?_ _) | (with_reducible refine SinceOf.further ?_ _) | (with_reducible refine SinceOf.setCell ?_ (by first | exact Nat.le_refl _ | (simp; done) | omega | (simp; omega)) _))))) hv2 (by omega) (by omega)
  rw [decide_eq_true rfl] at SM
  have VA := fun W (hW : SinceOf x4.wd W) => valid_any A1 c1 out2.1 W (HV1.out.2.of hW) (by omega)
  have ee : (out2.2 == out2.2) = true := by simp
  by_cases h0 : out2.2 = 0
  · have hk := (HV1.out.1.ok h0).1
    rw [validB_iff.2 hk.1] at VA
    have CA := fun W (hW : SinceOf x4.wd W) => canonical_any A1 c1 out2.1 W (HV1.out.2.of hW) hk hc1
    have g0 : (out2.2 != 0) = false := by simp [h0]
    have g1 : (out2.2 == 0) = true := by simp [h0]
    clear hs2 hv2 hc2 hk h0
    generalize out2.2 = er at *
    obtain ⟨l, hl⟩ : ∃ l, l = out2.1 := ⟨_, rfl⟩
    have HVL := Lib.hid (show IsVecs x4.wd A1 c1 l by rw [hl]; exact HV1.out.2)
    rw [← hl] at SM VA CA hlen hc1
    rw [← hl]
    clear hl RU HV1
    go_wp2_with fail
    refine SM.calls.mono ?_
    rintro e _ ⟨rfl, x6, rfl⟩
    go_wp2_with fail
    refine (VA _ (by (repeat (first | (with_reducible exact SinceOf.refl _) | (with_reducible assumption) | (with_reducible refine SinceOf.alloc ?_ _) | (with_reducible refine SinceOf.drew ?_) | (with_reducible refine SinceOf.drewN ?_ _) | (with_reducible refine SinceOf.later ?_ _) | (with_reducible refine SinceOf.further ?_ _) | (with_reducible refine SinceOf.setCell ?_ (by first | exact Nat.le_refl _ | (simp; done) | omega | (simp; omega)) _))))).calls.mono ?_
    rintro e _ ⟨rfl, x7, rfl⟩
    go_wp2_with fail
    refine (CA _ (by (repeat (first | (with_reducible exact SinceOf.refl _) | (with_reducible assumption) | (with_reducible refine SinceOf.alloc ?_ _) | (with_reducible refine SinceOf.drew ?_) | (with_reducible refine SinceOf.drewN ?_ _) | (with_reducible refine SinceOf.later ?_ _) | (with_reducible refine SinceOf.further ?_ _) | (with_reducible refine SinceOf.setCell ?_ (by first | exact Nat.le_refl _ | (simp; done) | omega | (simp; omega)) _))))).mono ?_
    rintro e _ ⟨A3, c3, rfl, hv3, ⟨x8, rfl⟩⟩
    have SN := same08_any A3 A1 c3 c1 l l x8.wd hv3 (HVL.out.of (by (repeat (first | (with_reducible exact SinceOf.refl _) | (with_reducible assumption) | (with_reducible refine SinceOf.alloc ?_ _) | (with_reducible refine SinceOf.drew ?_) | (with_reducible refine SinceOf.drewN ?_ _) | (with_reducible refine SinceOf.later ?_ _) | (with_reducible refine SinceOf.further ?_ _) | (with_reducible refine SinceOf.setCell ?_ (by first | exact Nat.le_refl _ | (simp; done) | omega | (simp; omega)) _))))) (by omega) (by omega)
    rw [decide_eq_true rfl] at SN
    clear hv3 VA CA SM
    go_wp2_with fail
    refine SN.calls.mono ?_
    rintro e _ ⟨rfl, x9, rfl⟩
    go_wp2_with fail
    go_returns
    exact ⟨by first | rfl | simp, by (repeat (first | (with_reducible exact SinceOf.refl _) | (with_reducible assumption) | (with_reducible refine SinceOf.alloc ?_ _) | (with_reducible refine SinceOf.drew ?_) | (with_reducible refine SinceOf.drewN ?_ _) | (with_reducible refine SinceOf.later ?_ _) | (with_reducible refine SinceOf.further ?_ _) | (with_reducible refine SinceOf.setCell ?_ (by first | exact Nat.le_refl _ | (simp; done) | omega | (simp; omega)) _)))⟩
  · have g0 : (out2.2 != 0) = true := by simpa using h0
    have g1 : (out2.2 == 0) = false := by simpa using h0
    clear hs2 hv2 hc2 h0
    generalize out2.2 = er at *
    obtain ⟨l, hl⟩ : ∃ l, l = out2.1 := ⟨_, rfl⟩
    rw [← hl] at SM VA hlen hc1
    rw [← hl]
    clear hl RU HV1
    go_wp2_with fail
    refine SM.calls.mono ?_
    rintro e _ ⟨rfl, x6, rfl⟩
    go_wp2_with fail
    go_returns
    exact ⟨by first | rfl | simp, by (repeat (first | (with_reducible exact SinceOf.refl _) | (with_reducible assumption) | (with_reducible refine SinceOf.alloc ?_ _) | (with_reducible refine SinceOf.drew ?_) | (with_reducible refine SinceOf.drewN ?_ _) | (with_reducible refine SinceOf.later ?_ _) | (with_reducible refine SinceOf.further ?_ _) | (with_reducible refine SinceOf.setCell ?_ (by first | exact Nat.le_refl _ | (simp; done) | omega | (simp; omega)) _)))⟩
end Go.Proofs.Ytbienlhofkfdpaa
