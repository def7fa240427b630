/- Layer 52: Valid. -/
import Derived.Test.YtbceogoeoojdbaaSch10
namespace Go.Proofs.Ytbceogoeoojdbaa
open Go.RowKit Go.Sort
set_option linter.unusedVariables false
attribute [local go_sem ↓] Go.wp_at_zero Go.wp_at_succ

theorem check_job {s : ShopR} {L : List JobR} (h : checkS s L = true) {j : JobR} (hj : j ∈ L) : jobB s j = true := by
  unfold checkS at h
  rw [Bool.and_eq_true, Bool.and_eq_true] at h
  have := h.2.2
  rw [Bool.not_eq_true', List.any_eq_false] at this
  simpa using this j hj
theorem job_parts {s : ShopR} {j : JobR} (h : jobB s j = true) : machsB s.cals.length j.ms = true ∧ 0 < j.ms.length ∧ (1 ≤ j.dur ∧ j.dur ≤ 10000) ∧ (0 ≤ j.cls ∧ j.cls < s.rows.length) ∧ (0 ≤ j.rel ∧ j.rel ≤ 1000000) ∧ (0 ≤ j.due ∧ j.due ≤ 1000000) ∧ (0 ≤ j.ord ∧ j.ord ≤ 1000) := by
  unfold jobB restB at h
  simp only [Bool.and_eq_true, decide_eq_true_eq] at h
  obtain ⟨h1, h2, h3, h4, h5, h6, h7⟩ := h
  exact ⟨h1, h2, h3, ⟨h4.1, by omega⟩, h5, h6, h7⟩
theorem check_good {s : ShopR} {L : List JobR} (h : checkS s L = true) : GoodP s L := by
  refine ⟨fun a ha => ?_, fun j hj => (job_parts (check_job h hj)).2.2.2.1⟩
  unfold checkS shopB sizesB at h
  simp only [Bool.and_eq_true] at h
  have := List.all_eq_true.1 h.1.2.1 s.rows[a] (List.getElem_mem ha)
  simpa using this
def validT (s : ShopR) (L : List JobR) (l : List SlotR) : Int × Int := if checkS s L = true then validV s L l else (0, 1)
set_option maxHeartbeats 1000000 in
theorem valid52_any (s : ShopR) (A : Option Addr) (c : Nat) (L : List JobR) (B : Option Addr) (d : Nat) (l : List SlotR) (w : World) (hs : IsShop w s) (h : IsJobs w A c L) (hl : IsSlots w B d l) (hll : l.length < 4611686018427387904) (hcap : l.length ≤ d) :
    Gives Try.prog 20 #[shopV s, .slice A L.length c, .slice B l.length d] w (.tuple #[.int .i64 (validT s L l).1, .int .i64 (validT s L l).2]) := by
  apply Gives.ret
  have CH := fun W hW => check_any s A c L W (hs.of hW) (h.of hW)
  cases hc : checkS s L
  · have e : validT s L l = (0, 1) := by unfold validT; rw [hc]; rfl
    rw [hc] at CH
    rw [e]
    clear hs h hl hc e
    go_enter Try.func20, Try.ntmps20
    go_wp2_with fail
    refine (CH _ (by (repeat (first | (with_reducible exact SinceOf.refl _) | (with_reducible assumption) | (with_reducible refine SinceOf.alloc ?_ _) | (with_reducible refine SinceOf.drew ?_) | (with_reducible refine SinceOf.drewN ?_ _) | (with_reducible refine SinceOf.later ?_ _) | (with_reducible refine SinceOf.further ?_ _) | (with_reducible refine SinceOf.setCell ?_ (by first | exact Nat.le_refl _ | (simp; done) | omega | (simp; omega)) _))))).calls.mono ?_
    rintro e _ ⟨rfl, x1, rfl⟩
    go_wp2_with fail
    go_returns
    exact ⟨rfl, by (repeat (first | (with_reducible exact LaterOf.refl _) | (with_reducible refine LaterOf.alloc ?_ _) | (with_reducible refine LaterOf.drew ?_) | (with_reducible refine LaterOf.drewN ?_ _) | (with_reducible refine LaterOf.later ?_ _) | (with_reducible refine LaterOf.setCell ?_ (by first | exact Nat.le_refl _ | (simp; done) | omega | (simp; omega)) _)))⟩
  · have e : validT s L l = validV s L l := by unfold validT; rw [hc]; rfl
    have VA := fun W (hW : SinceOf w W) => validS_any s A c L B d l W (hs.of hW) (h.of hW) (check_good hc) (fun j hj => (job_parts (check_job hc hj)).2.2.2.2.2.2) (hl.of hW) hll hcap
    rw [hc] at CH
    rw [e]
    generalize validV s L l = v at *
    obtain ⟨v1, v2⟩ := v
    clear hs h hl hc e
    go_enter Try.func20, Try.ntmps20
    go_wp2_with fail
    refine (CH _ (by (repeat (first | (with_reducible exact SinceOf.refl _) | (with_reducible assumption) | (with_reducible refine SinceOf.alloc ?_ _) | (with_reducible refine SinceOf.drew ?_) | (with_reducible refine SinceOf.drewN ?_ _) | (with_reducible refine SinceOf.later ?_ _) | (with_reducible refine SinceOf.further ?_ _) | (with_reducible refine SinceOf.setCell ?_ (by first | exact Nat.le_refl _ | (simp; done) | omega | (simp; omega)) _))))).calls.mono ?_
    rintro e _ ⟨rfl, x1, rfl⟩
    go_wp2_with fail
    refine (VA _ (by (repeat (first | (with_reducible exact SinceOf.refl _) | (with_reducible assumption) | (with_reducible refine SinceOf.alloc ?_ _) | (with_reducible refine SinceOf.drew ?_) | (with_reducible refine SinceOf.drewN ?_ _) | (with_reducible refine SinceOf.later ?_ _) | (with_reducible refine SinceOf.further ?_ _) | (with_reducible refine SinceOf.setCell ?_ (by first | exact Nat.le_refl _ | (simp; done) | omega | (simp; omega)) _))))).calls.mono ?_
    rintro e _ ⟨rfl, x2, rfl⟩
    go_wp2_with fail
    go_returns
    exact ⟨rfl, by (repeat (first | (with_reducible exact LaterOf.refl _) | (with_reducible refine LaterOf.alloc ?_ _) | (with_reducible refine LaterOf.drew ?_) | (with_reducible refine LaterOf.drewN ?_ _) | (with_reducible refine LaterOf.later ?_ _) | (with_reducible refine LaterOf.setCell ?_ (by first | exact Nat.le_refl _ | (simp; done) | omega | (simp; omega)) _)))⟩
end Go.Proofs.Ytbceogoeoojdbaa
