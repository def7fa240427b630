/- The walk of the law CalendarClose of layer 51. -/
import Derived.Test.YtbceogoeoojdbaaCalLaws1
namespace Go.Proofs.Ytbceogoeoojdbaa
open Go.RowKit Go.Sort
set_option linter.unusedVariables false
attribute [local go_sem ↓] Go.wp_at_zero Go.wp_at_succ

theorem CloseR.unique {P : Int} {S D : List (Int × Int)} {a b e1 p1 e2 p2 : Int} {s1 d1 s2 d2 : List (Int × Int)} (h : CloseR P S D a b e1 p1 s1 d1) (k : CloseR P S D a b e2 p2 s2 d2) : e1 = e2 ∧ p1 = p2 ∧ s1 = s2 ∧ d1 = d2 := by
  rcases h with ⟨hf, h1, h2, h3, h4⟩ | ⟨g, hc, M, hM, hs, h⟩ <;> rcases k with ⟨kf, k1, k2, k3, k4⟩ | ⟨g', kc, N, hN, ks, k⟩
  · exact ⟨by rw [h1, k1], by rw [h2, k2], by rw [h3, k3], by rw [h4, k4]⟩
  · rw [validB_iff.2 g', kc] at hf; cases hf
  · rw [validB_iff.2 g, hc] at kf; cases kf
  · obtain rfl : M = N := ascI_unique hM hN (fun t => by rw [hs, ks])
    rcases h with ⟨hl, h1, h2, h3, h4⟩ | ⟨hl, h1, h2, h3, h4⟩ <;> rcases k with ⟨kl, k1, k2, k3, k4⟩ | ⟨kl, k1, k2, k3, k4⟩
    · exact ⟨by rw [h1, k1], by rw [h2, k2], by rw [h3, k3], by rw [h4, k4]⟩
    · omega
    · omega
    · exact ⟨by rw [h1, k1], by rw [h2, k2], by rw [h3, k3], by rw [h4, k4]⟩
theorem IsCal.setOther {w : World} {P : Int} {A B : Option Addr} {n c m d : Nat} {S D : List (Int × Int)} (h : IsCal w P A n c B m d S D) (g j : Nat) (u : Value) (hA : ∀ b, blockOf A = some b → b ≠ g) (hB : ∀ b, blockOf B = some b → b ≠ g) :
    IsCal (w.setCell ⟨g, j, Option.none⟩ u) P A n c B m d S D := ⟨h.n, h.m, h.s.setOther g j u hA, h.d.setOther g j u hB, h.ns, h.nd⟩
/-- A variable that holds a calendar. -/
structure CalAt (w : World) (g : Nat) (P : Int) (A : Option Addr) (n c : Nat) (B : Option Addr) (m d : Nat) : Prop where
  c0 : w.cell? ⟨g, 0, none⟩ = some (.int .i64 P)
  c1 : w.cell? ⟨g, 1, none⟩ = some (.slice A n c)
  c2 : w.cell? ⟨g, 2, none⟩ = some (.slice B m d)
  there : Nonempty (Old w g)

section
variable {P : Int} {A B : Option Addr} {n c m d : Nat} {S D : List (Int × Int)} {w : World}
set_option maxRecDepth 100000 in
set_option maxHeartbeats 8000000 in
theorem calClose_law (x y k : Int) (h : IsCal w P A n c B m d S D) : Yields Try.prog 7 #[CalV P A n c B m d, askV x y k] w (.bool true) := by
  apply Yields.ret
  have FW := fun W hW => few_any (w := W) (h.of hW)
  generalize (decide (S.length ≤ 25) && decide (D.length ≤ 25)) = few at *
  have H := Lib.hid h
  clear h
  cases few
  · go_enter Try.func7, Try.ntmps7
    go_wp2_with fail
    refine (awake51_any _).calls.mono ?_
    rintro e _ ⟨rfl, x1, rfl⟩
    go_wp2_with fail
    refine (FW _ (by (repeat (first | (with_reducible exact SinceOf.refl _) | (with_reducible assumption) | (with_reducible refine SinceOf.alloc ?_ _) | (with_reducible refine SinceOf.drew ?_) | (with_reducible refine SinceOf.drewN ?_ _) | (with_reducible refine SinceOf.later ?_ _) | (with_reducible refine SinceOf.further ?_ _) | (with_reducible refine SinceOf.setCell ?_ (by first | exact Nat.le_refl _ | (simp; done) | omega | (simp; omega)) _))))).calls.mono ?_
    rintro e _ ⟨rfl, x2, rfl⟩
    go_wp2_with fail
    go_returns
    exact ⟨rfl, by (repeat (first | (with_reducible exact SinceOf.refl _) | (with_reducible assumption) | (with_reducible refine SinceOf.alloc ?_ _) | (with_reducible refine SinceOf.drew ?_) | (with_reducible refine SinceOf.drewN ?_ _) | (with_reducible refine SinceOf.later ?_ _) | (with_reducible refine SinceOf.further ?_ _) | (with_reducible refine SinceOf.setCell ?_ (by first | exact Nat.le_refl _ | (simp; done) | omega | (simp; omega)) _)))⟩
  · go_enter Try.func7, Try.ntmps7
    go_wp2_with fail
    refine (awake51_any _).calls.mono ?_
    rintro e _ ⟨rfl, x1, rfl⟩
    go_wp2_with fail
    refine (FW _ (by (repeat (first | (with_reducible exact SinceOf.refl _) | (with_reducible assumption) | (with_reducible refine SinceOf.alloc ?_ _) | (with_reducible refine SinceOf.drew ?_) | (with_reducible refine SinceOf.drewN ?_ _) | (with_reducible refine SinceOf.later ?_ _) | (with_reducible refine SinceOf.further ?_ _) | (with_reducible refine SinceOf.setCell ?_ (by first | exact Nat.le_refl _ | (simp; done) | omega | (simp; omega)) _))))).calls.mono ?_
    rintro e _ ⟨rfl, x2, rfl⟩
    go_upto_region 5 with fail
    go_cut [5, 6] (fun s5 s6 wx => ∃ (g : Nat) (err P' : Int) (A' : Option Addr) (n' c' : Nat) (B' : Option Addr) (m' d' : Nat) (S' D' : List (Int × Int)), s5 = .pointer (some ⟨g, 0, none⟩) ∧ s6 = .int .i64 err ∧ CalAt wx g P' A' n' c' B' m' d' ∧ IsCal wx P' A' n' c' B' m' d' S' D' ∧ CloseR P S D x y err P' S' D' ∧ SinceOf x2.wd wx)
    case first =>
      go_region_held3 (fun w' => w'.cell? ⟨w.heap.size, 0, none⟩ = some (.int .i64 P) ∧ w'.cell? ⟨w.heap.size, 1, none⟩ = some (.slice A n c) ∧ w'.cell? ⟨w.heap.size, 2, none⟩ = some (.slice B m d) ∧ w'.cell? ⟨w.heap.size + 1, 0, none⟩ = some (.int .i64 x) ∧ w'.cell? ⟨w.heap.size + 1, 1, none⟩ = some (.int .i64 y)) ((simp [go_sem, *]))
        (first | (go_at_call 35; refine (own_any _ _ _ _ _ _ _ _).calls.mono ?_; rintro e _ ⟨rfl, z1, rfl⟩) | (go_at_call 34; refine (close_any x y (H.out.of (by (repeat (first | (with_reducible exact SinceOf.refl _) | (with_reducible assumption) | (with_reducible refine SinceOf.alloc ?_ _) | (with_reducible refine SinceOf.drew ?_) | (with_reducible refine SinceOf.drewN ?_ _) | (with_reducible refine SinceOf.later ?_ _) | (with_reducible refine SinceOf.further ?_ _) | (with_reducible refine SinceOf.setCell ?_ (by first | exact Nat.le_refl _ | (simp; done) | omega | (simp; omega)) _)))))).mono ?_; rintro e _ ⟨⟨z2, rfl⟩, err, P', A', n', c', B', m', d', S', D', rfl, hcal, hr, hA, hB⟩))
      all_goals (go_wp2_with fail; go_meet; (have hz1 : x2.wd.heap.size ≤ z1.wd.heap.size := by have := z1.size; simp at this; omega); refine ⟨_, err, P', A', n', c', B', m', d', S', D', rfl, rfl, ⟨by simp [go_sem], by simp [go_sem], by simp [go_sem], inferInstance⟩, ?_, hr, by (repeat (first | (with_reducible exact SinceOf.refl _) | (with_reducible assumption) | (with_reducible refine SinceOf.alloc ?_ _) | (with_reducible refine SinceOf.drew ?_) | (with_reducible refine SinceOf.drewN ?_ _) | (with_reducible refine SinceOf.later ?_ _) | (with_reducible refine SinceOf.further ?_ _) | (with_reducible refine SinceOf.setCell ?_ (by first | exact Nat.le_refl _ | (simp; done) | omega | (simp; omega)) _)))⟩)
      all_goals first | (refine hcal.of ?_; ((repeat (first | (with_reducible exact SinceOf.refl _) | (with_reducible assumption) | (with_reducible refine SinceOf.alloc ?_ _) | (with_reducible refine SinceOf.drew ?_) | (with_reducible refine SinceOf.drewN ?_ _) | (with_reducible refine SinceOf.later ?_ _) | (with_reducible refine SinceOf.further ?_ _) | (with_reducible refine SinceOf.setCell ?_ (by first | exact Nat.le_refl _ | (simp; done) | omega | (simp; omega)) _)))); done) | (have gA := (fun b hb => by have h1 := hA b hb; have h2 := z1.size; simp at h1 h2; omega : ∀ b, blockOf A' = some b → b ≠ z1.wd.heap.size); have gB := (fun b hb => by have h1 := hB b hb; have h2 := z1.size; simp at h1 h2; omega : ∀ b, blockOf B' = some b → b ≠ z1.wd.heap.size); exact ((hcal.setOther _ _ _ gA gB).setOther _ _ _ gA gB).setOther _ _ _ gA gB) | (have gA := (fun b hb => by have h1 := hA b hb; have h2 := z1.size; simp at h1 h2; omega : ∀ b, blockOf A' = some b → b ≠ x2.wd.heap.size); have gB := (fun b hb => by have h1 := hB b hb; have h2 := z1.size; simp at h1 h2; omega : ∀ b, blockOf B' = some b → b ≠ x2.wd.heap.size); exact ((hcal.setOther _ _ _ gA gB).setOther _ _ _ gA gB).setOther _ _ _ gA gB)
    case rest =>
      obtain ⟨g, err, P', A', n', c', B', m', d', S', D', rfl, rfl, ⟨k0, k1, k2, hO⟩, hcal, hr, ⟨y3, rfl⟩⟩ := hcut
      have HC := Lib.hid (And.intro hcal hr)
      clear hcal hr
      go_wp2_with fail
      refine (refClose_any x y (H.out.of (by (repeat (first | (with_reducible exact SinceOf.refl _) | (with_reducible assumption) | (with_reducible refine SinceOf.alloc ?_ _) | (with_reducible refine SinceOf.drew ?_) | (with_reducible refine SinceOf.drewN ?_ _) | (with_reducible refine SinceOf.later ?_ _) | (with_reducible refine SinceOf.further ?_ _) | (with_reducible refine SinceOf.setCell ?_ (by first | exact Nat.le_refl _ | (simp; done) | omega | (simp; omega)) _)))))).mono ?_
      rintro e _ ⟨⟨y4, rfl⟩, err2, P2, A2, n2, c2, B2, m2, d2, S2, D2, rfl, hcal2, hr2, -, -⟩
      obtain ⟨rfl, rfl, rfl, rfl⟩ := HC.out.2.unique hr2
      have HC2 := Lib.hid hcal2
      clear hcal2 hr2
      go_wp2_with fail
      refine (equal_any (HC.out.1.of (by (repeat (first | (with_reducible exact SinceOf.refl _) | (with_reducible assumption) | (with_reducible refine SinceOf.alloc ?_ _) | (with_reducible refine SinceOf.drew ?_) | (with_reducible refine SinceOf.drewN ?_ _) | (with_reducible refine SinceOf.later ?_ _) | (with_reducible refine SinceOf.further ?_ _) | (with_reducible refine SinceOf.setCell ?_ (by first | exact Nat.le_refl _ | (simp; done) | omega | (simp; omega)) _))))) (HC2.out.of (by (repeat (first | (with_reducible exact SinceOf.refl _) | (with_reducible assumption) | (with_reducible refine SinceOf.alloc ?_ _) | (with_reducible refine SinceOf.drew ?_) | (with_reducible refine SinceOf.drewN ?_ _) | (with_reducible refine SinceOf.later ?_ _) | (with_reducible refine SinceOf.further ?_ _) | (with_reducible refine SinceOf.setCell ?_ (by first | exact Nat.le_refl _ | (simp; done) | omega | (simp; omega)) _))))) HC2.out.ns).calls.mono ?_
      rw [show (P' == P' && (decide (S' = S') && decide (D' = D'))) = true from by simp]
      rintro e _ ⟨rfl, x5, rfl⟩
      go_wp2_with fail
      go_returns
      exact ⟨rfl, by (repeat (first | (with_reducible exact SinceOf.refl _) | (with_reducible assumption) | (with_reducible refine SinceOf.alloc ?_ _) | (with_reducible refine SinceOf.drew ?_) | (with_reducible refine SinceOf.drewN ?_ _) | (with_reducible refine SinceOf.later ?_ _) | (with_reducible refine SinceOf.further ?_ _) | (with_reducible refine SinceOf.setCell ?_ (by first | exact Nat.le_refl _ | (simp; done) | omega | (simp; omega)) _)))⟩
end
end Go.Proofs.Ytbceogoeoojdbaa
