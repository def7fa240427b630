/- The heap of times: ahead, New, Len. -/
import Derived.Test.YtbceogoeoojdbaaBase
import Derived.Test.YtbceogoeoojdbaaHeapP
namespace Go.Proofs.Ytbceogoeoojdbaa
open Go.RowKit
set_option linter.unusedVariables false
attribute [local go_sem ↓] Go.wp_at_zero Go.wp_at_succ

/-- The heap's comparison in 'on'. -/
abbrev lessF : Value := .func (.func 117) #[] #[]
theorem hless_any (a b : Int) (w : World) : Gives Try.prog 117 #[.int .i64 a, .int .i64 b] w (.bool (decide (a < b))) := by
  apply Gives.ret
  go_enter Try.func117, Try.ntmps117
  go_wp2_with fail
  go_returns
  exact ⟨rfl, by (repeat (first | (with_reducible exact LaterOf.refl _) | (with_reducible refine LaterOf.alloc ?_ _) | (with_reducible refine LaterOf.drew ?_) | (with_reducible refine LaterOf.drewN ?_ _) | (with_reducible refine LaterOf.later ?_ _) | (with_reducible refine LaterOf.setCell ?_ (by first | exact Nat.le_refl _ | (simp; done) | omega | (simp; omega)) _)))⟩
/-- Block g is a heap with a row of entries. -/
structure HeapC (w : World) (g : Nat) (A : Option Addr) (n c : Nat) (next : Int) : Prop where
  c0 : w.cell? ⟨g, 0, none⟩ = some lessF
  c1 : w.cell? ⟨g, 1, none⟩ = some (.slice A n c)
  c2 : w.cell? ⟨g, 2, none⟩ = some (.int .i64 next)
  f1 : w.frozen? ⟨g, 1, none⟩ = false
  f2 : w.frozen? ⟨g, 2, none⟩ = false
  there : Nonempty (Old w g)
structure EntryAt (w : World) (g : Nat) (a b : Int) : Prop where
  c0 : w.cell? ⟨g, 0, none⟩ = some (.int .i64 a)
  c1 : w.cell? ⟨g, 1, none⟩ = some (.int .i64 b)
  there : Nonempty (Old w g)
/-- Is entry a ahead of entry b? -/
def aheadB (a b : Int × Int) : Bool := if a.2 < b.2 then !decide (b.1 < a.1) else decide (a.1 < b.1)
theorem aheadB_yes {a b : Int × Int} (h : aheadB a b = true) : a.1 ≤ b.1 := by
  unfold aheadB at h; split at h <;> simp at h <;> omega
theorem aheadB_no {a b : Int × Int} (h : aheadB a b = false) : b.1 ≤ a.1 := by
  unfold aheadB at h; split at h <;> simp at h <;> omega
set_option maxRecDepth 100000 in
set_option maxHeartbeats 1000000 in
theorem ahead_any (g : Nat) (A : Option Addr) (c : Nat) (next : Int) (L : List (Int × Int)) (i k : Nat) (hi : i < L.length) (hk : k < L.length) (hL : L.length < 4611686018427387904) (w : World) (h : HeapC w g A L.length c next) (hr : IsRow encV 2 w A c L) :
    Gives Try.prog 131 #[.pointer (some ⟨g, 0, none⟩), .int .i64 i, .int .i64 k] w (.bool (aheadB L[i] L[k])) := by
  apply Gives.ret
  obtain ⟨c0, c1, c2, f1, f2, hO⟩ := h
  obtain ⟨gr, off, rfl, hrr⟩ := hr.at_ (by omega)
  have hOr := hrr.there
  have a0 := hrr.v0 i hi
  have a1 := hrr.v1 i hi
  have b0 := hrr.v0 k hk
  have b1 := hrr.v1 k hk
  have HL := fun (a b : Int) W => hless_any a b W
  obtain ⟨⟨ax, an⟩, ha⟩ : ∃ q, q = L[i] := ⟨_, rfl⟩
  obtain ⟨⟨bx, bn⟩, hb⟩ : ∃ q, q = L[k] := ⟨_, rfl⟩
  rw [← ha] at a0 a1
  rw [← hb] at b0 b1
  rw [← ha, ← hb]
  have e : aheadB (ax, an) (bx, bn) = if an < bn then !decide (bx < ax) else decide (ax < bx) := rfl
  obtain ⟨res, hres⟩ : ∃ v, v = aheadB (ax, an) (bx, bn) := ⟨_, rfl⟩
  rw [← hres]
  rw [e] at hres
  have HR := Lib.hid hres
  simp only at a0 a1 b0 b1
  clear hrr hr ha hb e f1 f2 hres
  go_enter Try.func131, Try.ntmps131
  go_upto_region 1 with fail
  go_cut [7, 8] (fun s7 s8 wx => ∃ g7 g8 : Nat, s7 = .pointer (some ⟨g7, 0, none⟩) ∧ s8 = .pointer (some ⟨g8, 0, none⟩) ∧ EntryAt wx g7 ax an ∧ EntryAt wx g8 bx bn ∧ LaterOf w wx)
  case first =>
    go_region_held3 (fun w' => w'.cell? ⟨g, 1, none⟩ = some (.slice (some ⟨gr, off, none⟩) L.length c) ∧ w'.cell? ⟨gr, off + i * 2, none⟩ = some (.int .i64 ax) ∧ w'.cell? ⟨gr, off + i * 2 + 1, none⟩ = some (.int .i64 an) ∧ w'.cell? ⟨gr, off + k * 2, none⟩ = some (.int .i64 bx) ∧ w'.cell? ⟨gr, off + k * 2 + 1, none⟩ = some (.int .i64 bn)) ((simp [go_sem, *])) (fail)
    all_goals
      go_wp2_with fail
      go_meet
      exact ⟨_, _, rfl, rfl, ⟨by simp [go_sem], by simp [go_sem], inferInstance⟩, ⟨by simp [go_sem], by simp [go_sem], inferInstance⟩, by (repeat (first | (with_reducible exact LaterOf.refl _) | (with_reducible refine LaterOf.alloc ?_ _) | (with_reducible refine LaterOf.drew ?_) | (with_reducible refine LaterOf.drewN ?_ _) | (with_reducible refine LaterOf.later ?_ _) | (with_reducible refine LaterOf.setCell ?_ (by first | exact Nat.le_refl _ | (simp; done) | omega | (simp; omega)) _)))⟩
  case rest =>
    obtain ⟨g7, g8, rfl, rfl, ⟨d0, d1, hO7⟩, ⟨e0, e1, hO8⟩, ⟨z, rfl⟩⟩ := hcut
    clear a0 a1 b0 b1
    by_cases hlt : an < bn
    · go_wp2_with fail
      refine region_later (by kernel_rfl) (by kernel_rfl) ?_
      repeat (go_big_quiet_step ((with_reducible refine Gives.later (HL bx ax _))))
      refine wpQuiet_nil ?_
      rintro _ ⟨x2, rfl⟩
      go_wp2_with fail
      go_returns
      exact ⟨by rw [HR.out, if_pos hlt]; rfl, by (repeat (first | (with_reducible exact LaterOf.refl _) | (with_reducible refine LaterOf.alloc ?_ _) | (with_reducible refine LaterOf.drew ?_) | (with_reducible refine LaterOf.drewN ?_ _) | (with_reducible refine LaterOf.later ?_ _) | (with_reducible refine LaterOf.setCell ?_ (by first | exact Nat.le_refl _ | (simp; done) | omega | (simp; omega)) _)))⟩
    · go_wp2_with fail
      refine region_later (by kernel_rfl) (by kernel_rfl) ?_
      repeat (go_big_quiet_step ((with_reducible refine Gives.later (HL ax bx _))))
      refine wpQuiet_nil ?_
      rintro _ ⟨x2, rfl⟩
      go_wp2_with fail
      go_returns
      exact ⟨by rw [HR.out, if_neg (by omega)]; rfl, by (repeat (first | (with_reducible exact LaterOf.refl _) | (with_reducible refine LaterOf.alloc ?_ _) | (with_reducible refine LaterOf.drew ?_) | (with_reducible refine LaterOf.drewN ?_ _) | (with_reducible refine LaterOf.later ?_ _) | (with_reducible refine LaterOf.setCell ?_ (by first | exact Nat.le_refl _ | (simp; done) | omega | (simp; omega)) _)))⟩
end Go.Proofs.Ytbceogoeoojdbaa
