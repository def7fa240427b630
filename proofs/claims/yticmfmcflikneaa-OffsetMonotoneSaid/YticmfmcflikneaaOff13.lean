/- Layer 18: the walk of OffsetMonotone. -/
import Derived.Test.YticmfmcflikneaaOff12
namespace Go.Proofs.Yticmfmcflikneaa
open Go.RowKit Go.Sort
set_option linter.unusedVariables false
set_option linter.unusedSimpArgs false
attribute [local go_sem ↓] Go.wp_at_zero Go.wp_at_succ

set_option maxRecDepth 100000 in
set_option maxHeartbeats 8000000 in
theorem offsetMonotone_any (A B : Option Addr) (c d : Nat) (X Z : List RgR) (t u : Int) (w : World) (h : IsRings w A c X) (hz : IsRings w B d Z) (ht : 0 ≤ t ∧ t ≤ 255) (hu : 0 ≤ u ∧ u ≤ 255) : Yields Try.prog 14 #[.slice A X.length c, .slice B Z.length d, .agg #[.int .u8 t, .int .u8 u]] w (.bool true) := by
  apply Yields.ret
  have H := Lib.hid (And.intro h hz)
  clear h hz
  have M1 := fun W (hW : SinceOf w W) => modest_any A c X W (H.out.1.of hW)
  have M2 := fun W (hW : SinceOf w W) => modest_any B d Z W (H.out.2.of hW)
  have ht0 := ht.1
  have ht1 := ht.2
  have hu0 := hu.1
  have hu1 := hu.2
  clear ht hu
  cases hm : modB (vxs X)
  · rw [hm] at M1
    clear M2 hm
    go_enter Try.func14, Try.ntmps14
    go_wp2_with fail
    refine (awake18_any _).calls.mono ?_
    rintro e _ ⟨rfl, x1, rfl⟩
    go_wp2_with fail
    refine (M1 _ (by (repeat (first | (with_reducible exact SinceOf.refl _) | (with_reducible assumption) | (with_reducible refine SinceOf.alloc ?_ _) | (with_reducible refine SinceOf.drew ?_) | (with_reducible refine SinceOf.drewN ?_ _) | (with_reducible refine SinceOf.later ?_ _) | (with_reducible refine SinceOf.further ?_ _) | (with_reducible refine SinceOf.setCell ?_ (by first | exact Nat.le_refl _ | (simp; done) | omega | (simp; omega)) _))))).calls.mono ?_
    rintro e _ ⟨rfl, x2, rfl⟩
    go_wp2_with fail
    go_returns
    exact ⟨rfl, by (repeat (first | (with_reducible exact SinceOf.refl _) | (with_reducible assumption) | (with_reducible refine SinceOf.alloc ?_ _) | (with_reducible refine SinceOf.drew ?_) | (with_reducible refine SinceOf.drewN ?_ _) | (with_reducible refine SinceOf.later ?_ _) | (with_reducible refine SinceOf.further ?_ _) | (with_reducible refine SinceOf.setCell ?_ (by first | exact Nat.le_refl _ | (simp; done) | omega | (simp; omega)) _)))⟩
  cases hm2 : modB (vxs Z)
  · rw [hm] at M1
    rw [hm2] at M2
    clear hm hm2
    go_enter Try.func14, Try.ntmps14
    go_wp2_with fail
    refine (awake18_any _).calls.mono ?_
    rintro e _ ⟨rfl, x1, rfl⟩
    go_wp2_with fail
    refine (M1 _ (by (repeat (first | (with_reducible exact SinceOf.refl _) | (with_reducible assumption) | (with_reducible refine SinceOf.alloc ?_ _) | (with_reducible refine SinceOf.drew ?_) | (with_reducible refine SinceOf.drewN ?_ _) | (with_reducible refine SinceOf.later ?_ _) | (with_reducible refine SinceOf.further ?_ _) | (with_reducible refine SinceOf.setCell ?_ (by first | exact Nat.le_refl _ | (simp; done) | omega | (simp; omega)) _))))).calls.mono ?_
    rintro e _ ⟨rfl, x2, rfl⟩
    go_wp2_with fail
    refine (M2 _ (by (repeat (first | (with_reducible exact SinceOf.refl _) | (with_reducible assumption) | (with_reducible refine SinceOf.alloc ?_ _) | (with_reducible refine SinceOf.drew ?_) | (with_reducible refine SinceOf.drewN ?_ _) | (with_reducible refine SinceOf.later ?_ _) | (with_reducible refine SinceOf.further ?_ _) | (with_reducible refine SinceOf.setCell ?_ (by first | exact Nat.le_refl _ | (simp; done) | omega | (simp; omega)) _))))).calls.mono ?_
    rintro e _ ⟨rfl, x3, rfl⟩
    go_wp2_with fail
    go_returns
    exact ⟨rfl, by (repeat (first | (with_reducible exact SinceOf.refl _) | (with_reducible assumption) | (with_reducible refine SinceOf.alloc ?_ _) | (with_reducible refine SinceOf.drew ?_) | (with_reducible refine SinceOf.drewN ?_ _) | (with_reducible refine SinceOf.later ?_ _) | (with_reducible refine SinceOf.further ?_ _) | (with_reducible refine SinceOf.setCell ?_ (by first | exact Nat.le_refl _ | (simp; done) | omega | (simp; omega)) _)))⟩
  obtain ⟨tX, -⟩ := modB_tame hm
  obtain ⟨tZ, -⟩ := modB_tame hm2
  rw [hm] at M1
  rw [hm2] at M2
  have HT := Lib.hid (And.intro tX tZ)
  have hXl := tX.1
  rw [vxs_len] at hXl
  have hX20 : ∀ x ∈ X, x.xs.length ≤ 20 := fun x hx => tX.len20 _ (List.mem_map.2 ⟨x, hx, rfl⟩)
  clear hm hm2 tX tZ
  obtain ⟨m, hmd⟩ : ∃ m, m = t % 201 := ⟨_, rfl⟩
  have hm0 : 0 ≤ m := by omega
  have hm2 : m ≤ 200 := by omega
  obtain ⟨n, hnd⟩ : ∃ n, n = u % 201 := ⟨_, rfl⟩
  have hn0 : 0 ≤ n := by omega
  have hn2 : n ≤ 200 := by omega
  obtain ⟨q, hqd⟩ : ∃ q, q = min n m := ⟨_, rfl⟩
  have hq0 : 0 ≤ q := by omega
  have hqm : q ≤ m := by omega
  have A1 := fun W (hW : SinceOf w W) => apart_any A B c d X Z q W (H.out.1.of hW) (H.out.2.of hW) (by omega)
  have G1 := fun W (hW : SinceOf w W) => gap_any A B c d X Z m W (H.out.1.of hW) (H.out.2.of hW) (by omega) hX20
  have hsp := gap_spec hm0 hm2 HT.out.1 HT.out.2
  rw [(tame_apart hq0 (by omega) HT.out.1 HT.out.2).1] at A1
  have hsp2 : (gapV (vxs X) (vxs Z) m = (0, 8) ∧ (apartV (vxs X) (vxs Z) q).1 = false) ∨ ∃ g : Int, gapV (vxs X) (vxs Z) m = (g, 0) ∧ 0 ≤ g ∧ g ≤ m ∧ (apartV (vxs X) (vxs Z) q).1 = decide (q ≤ g) := by
    rcases hsp with ⟨a, b⟩ | ⟨g, a, b, c, d⟩
    · exact .inl ⟨a, b q hq0 hqm⟩
    · exact .inr ⟨g, a, b, c, d q hq0 hqm⟩
  clear hsp hX20
  generalize (apartV (vxs X) (vxs Z) q).1 = a1 at *
  generalize gapV (vxs X) (vxs Z) m = gv at *
  have e1 : t % 201 = m := hmd.symm
  have e2 : u % 201 = n := hnd.symm
  have e3 : min n m = q := hqd.symm
  have t1 : Int.tmod t 201 = m := by rw [Int.tmod_eq_emod_of_nonneg ht0]; exact e1
  have t2 : Int.tmod u 201 = n := by rw [Int.tmod_eq_emod_of_nonneg hu0]; exact e2
  clear hmd hnd hqd
  have HE3 := Lib.hid e3
  clear e3
  rcases hsp2 with ⟨rfl, rfl⟩ | ⟨g, rfl, hg0, hgm, ha⟩
  · simp only at G1
    go_enter Try.func14, Try.ntmps14
    go_wp2_with fail
    refine (awake18_any _).calls.mono ?_
    rintro e _ ⟨rfl, x1, rfl⟩
    go_wp2_with fail
    refine (M1 _ (by (repeat (first | (with_reducible exact SinceOf.refl _) | (with_reducible assumption) | (with_reducible refine SinceOf.alloc ?_ _) | (with_reducible refine SinceOf.drew ?_) | (with_reducible refine SinceOf.drewN ?_ _) | (with_reducible refine SinceOf.later ?_ _) | (with_reducible refine SinceOf.further ?_ _) | (with_reducible refine SinceOf.setCell ?_ (by first | exact Nat.le_refl _ | (simp; done) | omega | (simp; omega)) _))))).calls.mono ?_
    rintro e _ ⟨rfl, x2, rfl⟩
    go_wp2_with fail
    refine (M2 _ (by (repeat (first | (with_reducible exact SinceOf.refl _) | (with_reducible assumption) | (with_reducible refine SinceOf.alloc ?_ _) | (with_reducible refine SinceOf.drew ?_) | (with_reducible refine SinceOf.drewN ?_ _) | (with_reducible refine SinceOf.later ?_ _) | (with_reducible refine SinceOf.further ?_ _) | (with_reducible refine SinceOf.setCell ?_ (by first | exact Nat.le_refl _ | (simp; done) | omega | (simp; omega)) _))))).calls.mono ?_
    rintro e _ ⟨rfl, x3, rfl⟩
    clear M1 M2
    go_wp2_with fail
    refine region_later (by kernel_rfl) (by kernel_rfl) ?_
    repeat (go_big_quiet_step (fail))
    refine wpQuiet_nil ?_
    rintro _ ⟨z4, rfl⟩
    clear e1 e2 t1 t2
    go_wp2_with fail
    ((with_reducible refine (G1 _ ?hG).mono ?_))
    case hG => (repeat (first | (with_reducible exact SinceOf.refl _) | (with_reducible assumption) | (with_reducible refine SinceOf.alloc ?_ _) | (with_reducible refine SinceOf.drew ?_) | (with_reducible refine SinceOf.drewN ?_ _) | (with_reducible refine SinceOf.later ?_ _) | (with_reducible refine SinceOf.further ?_ _) | (with_reducible refine SinceOf.setCell ?_ (by first | exact Nat.le_refl _ | (simp; done) | omega | (simp; omega)) _)))
    rintro e _ ⟨rfl, ⟨x4, rfl⟩⟩
    have e3 := HE3.out
    go_wp2_with fail
    ((with_reducible refine (A1 _ ?hG).mono ?_))
    case hG => (repeat (first | (with_reducible exact SinceOf.refl _) | (with_reducible assumption) | (with_reducible refine SinceOf.alloc ?_ _) | (with_reducible refine SinceOf.drew ?_) | (with_reducible refine SinceOf.drewN ?_ _) | (with_reducible refine SinceOf.later ?_ _) | (with_reducible refine SinceOf.further ?_ _) | (with_reducible refine SinceOf.setCell ?_ (by first | exact Nat.le_refl _ | (simp; done) | omega | (simp; omega)) _)))
    rintro e _ ⟨rfl, ⟨x5, rfl⟩⟩
    go_wp2_with fail
    go_returns
    exact ⟨rfl, by (repeat (first | (with_reducible exact SinceOf.refl _) | (with_reducible assumption) | (with_reducible refine SinceOf.alloc ?_ _) | (with_reducible refine SinceOf.drew ?_) | (with_reducible refine SinceOf.drewN ?_ _) | (with_reducible refine SinceOf.later ?_ _) | (with_reducible refine SinceOf.further ?_ _) | (with_reducible refine SinceOf.setCell ?_ (by first | exact Nat.le_refl _ | (simp; done) | omega | (simp; omega)) _)))⟩
  · simp only at G1
    have g3 : decide (0 ≤ g) = true := decide_eq_true hg0
    have g4 : decide (g ≤ m) = true := decide_eq_true hgm
    have hA := Lib.hid ha
    clear ha
    go_enter Try.func14, Try.ntmps14
    go_wp2_with fail
    refine (awake18_any _).calls.mono ?_
    rintro e _ ⟨rfl, x1, rfl⟩
    go_wp2_with fail
    refine (M1 _ (by (repeat (first | (with_reducible exact SinceOf.refl _) | (with_reducible assumption) | (with_reducible refine SinceOf.alloc ?_ _) | (with_reducible refine SinceOf.drew ?_) | (with_reducible refine SinceOf.drewN ?_ _) | (with_reducible refine SinceOf.later ?_ _) | (with_reducible refine SinceOf.further ?_ _) | (with_reducible refine SinceOf.setCell ?_ (by first | exact Nat.le_refl _ | (simp; done) | omega | (simp; omega)) _))))).calls.mono ?_
    rintro e _ ⟨rfl, x2, rfl⟩
    go_wp2_with fail
    refine (M2 _ (by (repeat (first | (with_reducible exact SinceOf.refl _) | (with_reducible assumption) | (with_reducible refine SinceOf.alloc ?_ _) | (with_reducible refine SinceOf.drew ?_) | (with_reducible refine SinceOf.drewN ?_ _) | (with_reducible refine SinceOf.later ?_ _) | (with_reducible refine SinceOf.further ?_ _) | (with_reducible refine SinceOf.setCell ?_ (by first | exact Nat.le_refl _ | (simp; done) | omega | (simp; omega)) _))))).calls.mono ?_
    rintro e _ ⟨rfl, x3, rfl⟩
    clear M1 M2
    go_wp2_with fail
    refine region_later (by kernel_rfl) (by kernel_rfl) ?_
    repeat (go_big_quiet_step (fail))
    refine wpQuiet_nil ?_
    rintro _ ⟨z4, rfl⟩
    clear e1 e2 t1 t2
    go_wp2_with fail
    ((with_reducible refine (G1 _ ?hG).mono ?_))
    case hG => (repeat (first | (with_reducible exact SinceOf.refl _) | (with_reducible assumption) | (with_reducible refine SinceOf.alloc ?_ _) | (with_reducible refine SinceOf.drew ?_) | (with_reducible refine SinceOf.drewN ?_ _) | (with_reducible refine SinceOf.later ?_ _) | (with_reducible refine SinceOf.further ?_ _) | (with_reducible refine SinceOf.setCell ?_ (by first | exact Nat.le_refl _ | (simp; done) | omega | (simp; omega)) _)))
    rintro e _ ⟨rfl, ⟨x4, rfl⟩⟩
    have e3 := HE3.out
    go_wp2_with fail
    ((with_reducible refine (A1 _ ?hG).mono ?_))
    case hG => (repeat (first | (with_reducible exact SinceOf.refl _) | (with_reducible assumption) | (with_reducible refine SinceOf.alloc ?_ _) | (with_reducible refine SinceOf.drew ?_) | (with_reducible refine SinceOf.drewN ?_ _) | (with_reducible refine SinceOf.later ?_ _) | (with_reducible refine SinceOf.further ?_ _) | (with_reducible refine SinceOf.setCell ?_ (by first | exact Nat.le_refl _ | (simp; done) | omega | (simp; omega)) _)))
    rintro e _ ⟨rfl, ⟨x5, rfl⟩⟩
    have g5 : (a1 == decide (q ≤ g)) = true := by rw [hA.out]; simp
    go_wp2_with fail
    go_returns
    exact ⟨by simp, by (repeat (first | (with_reducible exact SinceOf.refl _) | (with_reducible assumption) | (with_reducible refine SinceOf.alloc ?_ _) | (with_reducible refine SinceOf.drew ?_) | (with_reducible refine SinceOf.drewN ?_ _) | (with_reducible refine SinceOf.later ?_ _) | (with_reducible refine SinceOf.further ?_ _) | (with_reducible refine SinceOf.setCell ?_ (by first | exact Nat.le_refl _ | (simp; done) | omega | (simp; omega)) _)))⟩
end Go.Proofs.Yticmfmcflikneaa
