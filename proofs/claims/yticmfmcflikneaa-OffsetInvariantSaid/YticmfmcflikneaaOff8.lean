/- Layer 18: Overlap and Apart of both. -/
import Derived.Test.YticmfmcflikneaaOff6
import Derived.Test.YticmfmcflikneaaOff7
namespace Go.Proofs.Yticmfmcflikneaa
open Go.RowKit Go.Sort
set_option linter.unusedVariables false
set_option linter.unusedSimpArgs false
attribute [local go_sem ↓] Go.wp_at_zero Go.wp_at_succ

def overlapR (r s : List Pt) : Bool × Int := if convexB r && convexB s then (!sepPair r s, 0) else (false, 11)
set_option maxRecDepth 100000 in
set_option maxHeartbeats 4000000 in
theorem overlap_any (A B : Option Addr) (c d : Nat) (r s : List (Int × Int)) (w : World) (h : IsVecs w A c r) (k : IsVecs w B d s) (hlen : r.length < 4611686018427387904) (hlen2 : s.length < 4611686018427387904) :
    Gives Try.prog 57 #[.slice A r.length c, .slice B s.length d] w (.tuple #[.bool (overlapR r s).1, .int .i64 (overlapR r s).2]) := by
  apply Gives.ret
  have C1 := fun W (hW : SinceOf w W) => convex_any A c r W (h.of hW) hlen
  have C2 := fun W (hW : SinceOf w W) => convex_any B d s W (k.of hW) hlen2
  have S1 := fun W (hW : SinceOf w W) => separated_any A B c d r s W (h.of hW) (k.of hW) hlen hlen2
  have S2 := fun W (hW : SinceOf w W) => separated_any B A d c s r W (k.of hW) (h.of hW) hlen2 hlen
  unfold overlapR sepPair
  clear h k
  generalize convexB r = c1 at *
  generalize convexB s = c2 at *
  generalize sepB r s = s1 at *
  generalize sepB s r = s2 at *
  cases c1
  · clear C2 S1 S2
    go_enter Try.func57, Try.ntmps57
    go_wp2_with fail
    refine (C1 _ (by (repeat (first | (with_reducible exact SinceOf.refl _) | (with_reducible assumption) | (with_reducible refine SinceOf.alloc ?_ _) | (with_reducible refine SinceOf.drew ?_) | (with_reducible refine SinceOf.drewN ?_ _) | (with_reducible refine SinceOf.later ?_ _) | (with_reducible refine SinceOf.further ?_ _) | (with_reducible refine SinceOf.setCell ?_ (by first | exact Nat.le_refl _ | (simp; done) | omega | (simp; omega)) _))))).calls.mono ?_
    rintro e _ ⟨rfl, x1, rfl⟩
    go_wp2_with fail
    go_returns
    exact ⟨by simp, by (repeat (first | (with_reducible exact LaterOf.refl _) | (with_reducible refine LaterOf.alloc ?_ _) | (with_reducible refine LaterOf.drew ?_) | (with_reducible refine LaterOf.drewN ?_ _) | (with_reducible refine LaterOf.later ?_ _) | (with_reducible refine LaterOf.setCell ?_ (by first | exact Nat.le_refl _ | (simp; done) | omega | (simp; omega)) _)))⟩
  cases c2
  · clear S1 S2
    go_enter Try.func57, Try.ntmps57
    go_wp2_with fail
    refine (C1 _ (by (repeat (first | (with_reducible exact SinceOf.refl _) | (with_reducible assumption) | (with_reducible refine SinceOf.alloc ?_ _) | (with_reducible refine SinceOf.drew ?_) | (with_reducible refine SinceOf.drewN ?_ _) | (with_reducible refine SinceOf.later ?_ _) | (with_reducible refine SinceOf.further ?_ _) | (with_reducible refine SinceOf.setCell ?_ (by first | exact Nat.le_refl _ | (simp; done) | omega | (simp; omega)) _))))).calls.mono ?_
    rintro e _ ⟨rfl, x1, rfl⟩
    go_wp2_with fail
    refine (C2 _ (by (repeat (first | (with_reducible exact SinceOf.refl _) | (with_reducible assumption) | (with_reducible refine SinceOf.alloc ?_ _) | (with_reducible refine SinceOf.drew ?_) | (with_reducible refine SinceOf.drewN ?_ _) | (with_reducible refine SinceOf.later ?_ _) | (with_reducible refine SinceOf.further ?_ _) | (with_reducible refine SinceOf.setCell ?_ (by first | exact Nat.le_refl _ | (simp; done) | omega | (simp; omega)) _))))).calls.mono ?_
    rintro e _ ⟨rfl, x2, rfl⟩
    go_wp2_with fail
    go_returns
    exact ⟨by simp, by (repeat (first | (with_reducible exact LaterOf.refl _) | (with_reducible refine LaterOf.alloc ?_ _) | (with_reducible refine LaterOf.drew ?_) | (with_reducible refine LaterOf.drewN ?_ _) | (with_reducible refine LaterOf.later ?_ _) | (with_reducible refine LaterOf.setCell ?_ (by first | exact Nat.le_refl _ | (simp; done) | omega | (simp; omega)) _)))⟩
  cases s1
  · cases s2
    all_goals
      go_enter Try.func57, Try.ntmps57
      go_wp2_with fail
      refine (C1 _ (by (repeat (first | (with_reducible exact SinceOf.refl _) | (with_reducible assumption) | (with_reducible refine SinceOf.alloc ?_ _) | (with_reducible refine SinceOf.drew ?_) | (with_reducible refine SinceOf.drewN ?_ _) | (with_reducible refine SinceOf.later ?_ _) | (with_reducible refine SinceOf.further ?_ _) | (with_reducible refine SinceOf.setCell ?_ (by first | exact Nat.le_refl _ | (simp; done) | omega | (simp; omega)) _))))).calls.mono ?_
      rintro e _ ⟨rfl, x1, rfl⟩
      go_wp2_with fail
      refine (C2 _ (by (repeat (first | (with_reducible exact SinceOf.refl _) | (with_reducible assumption) | (with_reducible refine SinceOf.alloc ?_ _) | (with_reducible refine SinceOf.drew ?_) | (with_reducible refine SinceOf.drewN ?_ _) | (with_reducible refine SinceOf.later ?_ _) | (with_reducible refine SinceOf.further ?_ _) | (with_reducible refine SinceOf.setCell ?_ (by first | exact Nat.le_refl _ | (simp; done) | omega | (simp; omega)) _))))).calls.mono ?_
      rintro e _ ⟨rfl, x2, rfl⟩
      go_wp2_with fail
      refine (S1 _ (by (repeat (first | (with_reducible exact SinceOf.refl _) | (with_reducible assumption) | (with_reducible refine SinceOf.alloc ?_ _) | (with_reducible refine SinceOf.drew ?_) | (with_reducible refine SinceOf.drewN ?_ _) | (with_reducible refine SinceOf.later ?_ _) | (with_reducible refine SinceOf.further ?_ _) | (with_reducible refine SinceOf.setCell ?_ (by first | exact Nat.le_refl _ | (simp; done) | omega | (simp; omega)) _))))).calls.mono ?_
      rintro e _ ⟨rfl, x3, rfl⟩
      go_wp2_with fail
      refine (S2 _ (by (repeat (first | (with_reducible exact SinceOf.refl _) | (with_reducible assumption) | (with_reducible refine SinceOf.alloc ?_ _) | (with_reducible refine SinceOf.drew ?_) | (with_reducible refine SinceOf.drewN ?_ _) | (with_reducible refine SinceOf.later ?_ _) | (with_reducible refine SinceOf.further ?_ _) | (with_reducible refine SinceOf.setCell ?_ (by first | exact Nat.le_refl _ | (simp; done) | omega | (simp; omega)) _))))).calls.mono ?_
      rintro e _ ⟨rfl, x4, rfl⟩
      go_wp2_with fail
      go_returns
      exact ⟨by simp, by (repeat (first | (with_reducible exact LaterOf.refl _) | (with_reducible refine LaterOf.alloc ?_ _) | (with_reducible refine LaterOf.drew ?_) | (with_reducible refine LaterOf.drewN ?_ _) | (with_reducible refine LaterOf.later ?_ _) | (with_reducible refine LaterOf.setCell ?_ (by first | exact Nat.le_refl _ | (simp; done) | omega | (simp; omega)) _)))⟩
  · go_enter Try.func57, Try.ntmps57
    go_wp2_with fail
    refine (C1 _ (by (repeat (first | (with_reducible exact SinceOf.refl _) | (with_reducible assumption) | (with_reducible refine SinceOf.alloc ?_ _) | (with_reducible refine SinceOf.drew ?_) | (with_reducible refine SinceOf.drewN ?_ _) | (with_reducible refine SinceOf.later ?_ _) | (with_reducible refine SinceOf.further ?_ _) | (with_reducible refine SinceOf.setCell ?_ (by first | exact Nat.le_refl _ | (simp; done) | omega | (simp; omega)) _))))).calls.mono ?_
    rintro e _ ⟨rfl, x1, rfl⟩
    go_wp2_with fail
    refine (C2 _ (by (repeat (first | (with_reducible exact SinceOf.refl _) | (with_reducible assumption) | (with_reducible refine SinceOf.alloc ?_ _) | (with_reducible refine SinceOf.drew ?_) | (with_reducible refine SinceOf.drewN ?_ _) | (with_reducible refine SinceOf.later ?_ _) | (with_reducible refine SinceOf.further ?_ _) | (with_reducible refine SinceOf.setCell ?_ (by first | exact Nat.le_refl _ | (simp; done) | omega | (simp; omega)) _))))).calls.mono ?_
    rintro e _ ⟨rfl, x2, rfl⟩
    go_wp2_with fail
    refine (S1 _ (by (repeat (first | (with_reducible exact SinceOf.refl _) | (with_reducible assumption) | (with_reducible refine SinceOf.alloc ?_ _) | (with_reducible refine SinceOf.drew ?_) | (with_reducible refine SinceOf.drewN ?_ _) | (with_reducible refine SinceOf.later ?_ _) | (with_reducible refine SinceOf.further ?_ _) | (with_reducible refine SinceOf.setCell ?_ (by first | exact Nat.le_refl _ | (simp; done) | omega | (simp; omega)) _))))).calls.mono ?_
    rintro e _ ⟨rfl, x3, rfl⟩
    go_wp2_with fail
    go_returns
    exact ⟨by simp, by (repeat (first | (with_reducible exact LaterOf.refl _) | (with_reducible refine LaterOf.alloc ?_ _) | (with_reducible refine LaterOf.drew ?_) | (with_reducible refine LaterOf.drewN ?_ _) | (with_reducible refine LaterOf.later ?_ _) | (with_reducible refine LaterOf.setCell ?_ (by first | exact Nat.le_refl _ | (simp; done) | omega | (simp; omega)) _)))⟩
set_option maxRecDepth 100000 in
set_option maxHeartbeats 4000000 in
theorem refOverlap_any (A B : Option Addr) (c d : Nat) (r s : List (Int × Int)) (w : World) (h : IsVecs w A c r) (k : IsVecs w B d s) (hlen : r.length < 4611686018427387904) (hlen2 : s.length < 4611686018427387904) :
    Gives Try.prog 58 #[.slice A r.length c, .slice B s.length d] w (.tuple #[.bool (overlapR r s).1, .int .i64 (overlapR r s).2]) := by
  apply Gives.ret
  have C1 := fun W (hW : SinceOf w W) => refConvex_any A c r W (h.of hW) hlen
  have C2 := fun W (hW : SinceOf w W) => refConvex_any B d s W (k.of hW) hlen2
  have S1 := fun W (hW : SinceOf w W) => refSeparated_any A B c d r s W (h.of hW) (k.of hW) hlen hlen2
  have S2 := fun W (hW : SinceOf w W) => refSeparated_any B A d c s r W (k.of hW) (h.of hW) hlen2 hlen
  unfold overlapR sepPair
  clear h k
  generalize convexB r = c1 at *
  generalize convexB s = c2 at *
  generalize sepB r s = s1 at *
  generalize sepB s r = s2 at *
  cases c1
  · clear C2 S1 S2
    go_enter Try.func58, Try.ntmps58
    go_wp2_with fail
    refine (C1 _ (by (repeat (first | (with_reducible exact SinceOf.refl _) | (with_reducible assumption) | (with_reducible refine SinceOf.alloc ?_ _) | (with_reducible refine SinceOf.drew ?_) | (with_reducible refine SinceOf.drewN ?_ _) | (with_reducible refine SinceOf.later ?_ _) | (with_reducible refine SinceOf.further ?_ _) | (with_reducible refine SinceOf.setCell ?_ (by first | exact Nat.le_refl _ | (simp; done) | omega | (simp; omega)) _))))).calls.mono ?_
    rintro e _ ⟨rfl, x1, rfl⟩
    go_wp2_with fail
    go_returns
    exact ⟨by simp, by (repeat (first | (with_reducible exact LaterOf.refl _) | (with_reducible refine LaterOf.alloc ?_ _) | (with_reducible refine LaterOf.drew ?_) | (with_reducible refine LaterOf.drewN ?_ _) | (with_reducible refine LaterOf.later ?_ _) | (with_reducible refine LaterOf.setCell ?_ (by first | exact Nat.le_refl _ | (simp; done) | omega | (simp; omega)) _)))⟩
  cases c2
  · clear S1 S2
    go_enter Try.func58, Try.ntmps58
    go_wp2_with fail
    refine (C1 _ (by (repeat (first | (with_reducible exact SinceOf.refl _) | (with_reducible assumption) | (with_reducible refine SinceOf.alloc ?_ _) | (with_reducible refine SinceOf.drew ?_) | (with_reducible refine SinceOf.drewN ?_ _) | (with_reducible refine SinceOf.later ?_ _) | (with_reducible refine SinceOf.further ?_ _) | (with_reducible refine SinceOf.setCell ?_ (by first | exact Nat.le_refl _ | (simp; done) | omega | (simp; omega)) _))))).calls.mono ?_
    rintro e _ ⟨rfl, x1, rfl⟩
    go_wp2_with fail
    refine (C2 _ (by (repeat (first | (with_reducible exact SinceOf.refl _) | (with_reducible assumption) | (with_reducible refine SinceOf.alloc ?_ _) | (with_reducible refine SinceOf.drew ?_) | (with_reducible refine SinceOf.drewN ?_ _) | (with_reducible refine SinceOf.later ?_ _) | (with_reducible refine SinceOf.further ?_ _) | (with_reducible refine SinceOf.setCell ?_ (by first | exact Nat.le_refl _ | (simp; done) | omega | (simp; omega)) _))))).calls.mono ?_
    rintro e _ ⟨rfl, x2, rfl⟩
    go_wp2_with fail
    go_returns
    exact ⟨by simp, by (repeat (first | (with_reducible exact LaterOf.refl _) | (with_reducible refine LaterOf.alloc ?_ _) | (with_reducible refine LaterOf.drew ?_) | (with_reducible refine LaterOf.drewN ?_ _) | (with_reducible refine LaterOf.later ?_ _) | (with_reducible refine LaterOf.setCell ?_ (by first | exact Nat.le_refl _ | (simp; done) | omega | (simp; omega)) _)))⟩
  cases s1
  · cases s2
    all_goals
      go_enter Try.func58, Try.ntmps58
      go_wp2_with fail
      refine (C1 _ (by (repeat (first | (with_reducible exact SinceOf.refl _) | (with_reducible assumption) | (with_reducible refine SinceOf.alloc ?_ _) | (with_reducible refine SinceOf.drew ?_) | (with_reducible refine SinceOf.drewN ?_ _) | (with_reducible refine SinceOf.later ?_ _) | (with_reducible refine SinceOf.further ?_ _) | (with_reducible refine SinceOf.setCell ?_ (by first | exact Nat.le_refl _ | (simp; done) | omega | (simp; omega)) _))))).calls.mono ?_
      rintro e _ ⟨rfl, x1, rfl⟩
      go_wp2_with fail
      refine (C2 _ (by (repeat (first | (with_reducible exact SinceOf.refl _) | (with_reducible assumption) | (with_reducible refine SinceOf.alloc ?_ _) | (with_reducible refine SinceOf.drew ?_) | (with_reducible refine SinceOf.drewN ?_ _) | (with_reducible refine SinceOf.later ?_ _) | (with_reducible refine SinceOf.further ?_ _) | (with_reducible refine SinceOf.setCell ?_ (by first | exact Nat.le_refl _ | (simp; done) | omega | (simp; omega)) _))))).calls.mono ?_
      rintro e _ ⟨rfl, x2, rfl⟩
      go_wp2_with fail
      refine (S1 _ (by (repeat (first | (with_reducible exact SinceOf.refl _) | (with_reducible assumption) | (with_reducible refine SinceOf.alloc ?_ _) | (with_reducible refine SinceOf.drew ?_) | (with_reducible refine SinceOf.drewN ?_ _) | (with_reducible refine SinceOf.later ?_ _) | (with_reducible refine SinceOf.further ?_ _) | (with_reducible refine SinceOf.setCell ?_ (by first | exact Nat.le_refl _ | (simp; done) | omega | (simp; omega)) _))))).calls.mono ?_
      rintro e _ ⟨rfl, x3, rfl⟩
      go_wp2_with fail
      refine (S2 _ (by (repeat (first | (with_reducible exact SinceOf.refl _) | (with_reducible assumption) | (with_reducible refine SinceOf.alloc ?_ _) | (with_reducible refine SinceOf.drew ?_) | (with_reducible refine SinceOf.drewN ?_ _) | (with_reducible refine SinceOf.later ?_ _) | (with_reducible refine SinceOf.further ?_ _) | (with_reducible refine SinceOf.setCell ?_ (by first | exact Nat.le_refl _ | (simp; done) | omega | (simp; omega)) _))))).calls.mono ?_
      rintro e _ ⟨rfl, x4, rfl⟩
      go_wp2_with fail
      go_returns
      exact ⟨by simp, by (repeat (first | (with_reducible exact LaterOf.refl _) | (with_reducible refine LaterOf.alloc ?_ _) | (with_reducible refine LaterOf.drew ?_) | (with_reducible refine LaterOf.drewN ?_ _) | (with_reducible refine LaterOf.later ?_ _) | (with_reducible refine LaterOf.setCell ?_ (by first | exact Nat.le_refl _ | (simp; done) | omega | (simp; omega)) _)))⟩
  · go_enter Try.func58, Try.ntmps58
    go_wp2_with fail
    refine (C1 _ (by (repeat (first | (with_reducible exact SinceOf.refl _) | (with_reducible assumption) | (with_reducible refine SinceOf.alloc ?_ _) | (with_reducible refine SinceOf.drew ?_) | (with_reducible refine SinceOf.drewN ?_ _) | (with_reducible refine SinceOf.later ?_ _) | (with_reducible refine SinceOf.further ?_ _) | (with_reducible refine SinceOf.setCell ?_ (by first | exact Nat.le_refl _ | (simp; done) | omega | (simp; omega)) _))))).calls.mono ?_
    rintro e _ ⟨rfl, x1, rfl⟩
    go_wp2_with fail
    refine (C2 _ (by (repeat (first | (with_reducible exact SinceOf.refl _) | (with_reducible assumption) | (with_reducible refine SinceOf.alloc ?_ _) | (with_reducible refine SinceOf.drew ?_) | (with_reducible refine SinceOf.drewN ?_ _) | (with_reducible refine SinceOf.later ?_ _) | (with_reducible refine SinceOf.further ?_ _) | (with_reducible refine SinceOf.setCell ?_ (by first | exact Nat.le_refl _ | (simp; done) | omega | (simp; omega)) _))))).calls.mono ?_
    rintro e _ ⟨rfl, x2, rfl⟩
    go_wp2_with fail
    refine (S1 _ (by (repeat (first | (with_reducible exact SinceOf.refl _) | (with_reducible assumption) | (with_reducible refine SinceOf.alloc ?_ _) | (with_reducible refine SinceOf.drew ?_) | (with_reducible refine SinceOf.drewN ?_ _) | (with_reducible refine SinceOf.later ?_ _) | (with_reducible refine SinceOf.further ?_ _) | (with_reducible refine SinceOf.setCell ?_ (by first | exact Nat.le_refl _ | (simp; done) | omega | (simp; omega)) _))))).calls.mono ?_
    rintro e _ ⟨rfl, x3, rfl⟩
    go_wp2_with fail
    go_returns
    exact ⟨by simp, by (repeat (first | (with_reducible exact LaterOf.refl _) | (with_reducible refine LaterOf.alloc ?_ _) | (with_reducible refine LaterOf.drew ?_) | (with_reducible refine LaterOf.drewN ?_ _) | (with_reducible refine LaterOf.later ?_ _) | (with_reducible refine LaterOf.setCell ?_ (by first | exact Nat.le_refl _ | (simp; done) | omega | (simp; omega)) _)))⟩
theorem growF_convex {k : Int} {r s : List Pt} (h : growF k r = (s, 0)) : convexB s = true := by
  cases hc : convexB r
  · rw [growF_bad hc] at h; cases h
  · have hR := hullF_res (sumsL r (octR k))
    rw [← growF_ok hc, h] at hR
    obtain ⟨hy, h160, hf⟩ := hullRes_ok hR
    exact hull_convexB hf hy.hull h160
theorem growL_convex {k : Int} : ∀ {a : List (List Pt)}, (growL k a).2 = 0 → ∀ s ∈ (growL k a).1, convexB s = true
  | [], _, s, hs => by cases hs
  | r :: a, h, s, hs => by
    unfold growL at h hs
    by_cases h1 : (growF k r).2 = 0
    · rw [if_pos h1] at h hs
      by_cases h2 : (growL k a).2 = 0
      · rw [if_pos h2] at hs
        rcases List.mem_cons.1 hs with rfl | hs
        · exact growF_convex (Prod.ext rfl h1)
        · exact growL_convex h2 s hs
      · rw [if_neg h2] at h
        exact absurd h h2
    · rw [if_neg h1] at h
      exact absurd h h1
theorem growV_convex {k : Int} {a b : List (List Pt)} (h : growV k a = (b, 0)) : ∀ s ∈ b, convexB s = true := by
  unfold growV at h
  by_cases hk : 0 ≤ k ∧ k ≤ 200
  · rw [if_pos hk] at h
    have := growL_convex (k := k) (a := a) (by rw [h])
    rw [h] at this
    exact this
  · rw [if_neg hk] at h
    cases h
theorem growL_length {k : Int} : ∀ {a : List (List Pt)}, (growL k a).1.length ≤ a.length
  | [] => Nat.le_refl _
  | r :: a => by
    unfold growL
    have := growL_length (k := k) (a := a)
    split
    · split <;> simp
      omega
    · simp
theorem growV_length {k : Int} {a b : List (List Pt)} {e : Int} (h : growV k a = (b, e)) : b.length ≤ a.length := by
  unfold growV at h
  split at h
  · have := growL_length (k := k) (a := a)
    rw [h] at this
    exact this
  · injection h with h1 h2
    rw [← h1]
    exact Nat.zero_le _
theorem apartV_bad {a b g : List (List Pt)} {k e : Int} (h : growV k a = (g, e)) (he : e ≠ 0) : apartV a b k = (false, e) := by
  unfold apartV
  rw [h]
  exact if_neg he
theorem apartV_flat {a b g : List (List Pt)} {k : Int} (h : growV k a = (g, 0)) (hb : b.all convexB = false) : apartV a b k = (false, 11) := by
  unfold apartV
  rw [h, if_pos rfl, hb]
  rfl
theorem apartV_ok {a b g : List (List Pt)} {k : Int} (h : growV k a = (g, 0)) (hb : b.all convexB = true) : apartV a b k = (g.all (fun r => b.all (sepPair r)), 0) := by
  unfold apartV
  rw [h, if_pos rfl, hb]
  rfl
theorem vxs_all {α : Type} (p : List Pt → Bool) (X : List RgR) : (vxs X).all p = X.all (fun x => p x.xs) := by
  unfold vxs; rw [List.all_map]; rfl
set_option maxRecDepth 100000 in
set_option maxHeartbeats 16000000 in
theorem apart_any (A B : Option Addr) (c d : Nat) (X Z : List RgR) (k : Int) (w : World) (h : IsRings w A c X) (hz : IsRings w B d Z) (hlen : X.length ≤ 1000) :
    Calls Try.prog 48 #[.slice A X.length c, .slice B Z.length d, .int .i64 k] w fun e w' => e = .returned (.tuple #[.bool (apartV (vxs X) (vxs Z) k).1, .int .i64 (apartV (vxs X) (vxs Z) k).2]) ∧ SinceOf w w' := by
  have H := Lib.hid h
  have HZ := Lib.hid hz
  have hzl := hz.len
  clear h hz
  generalize hap : apartV (vxs X) (vxs Z) k = ap
  have HA := Lib.hid hap
  clear hap
  go_enter Try.func48, Try.ntmps48
  go_wp2_with fail
  refine (grow_any A c X k _ (H.out.of (by (repeat (first | (with_reducible exact SinceOf.refl _) | (with_reducible assumption) | (with_reducible refine SinceOf.alloc ?_ _) | (with_reducible refine SinceOf.drew ?_) | (with_reducible refine SinceOf.drewN ?_ _) | (with_reducible refine SinceOf.later ?_ _) | (with_reducible refine SinceOf.further ?_ _) | (with_reducible refine SinceOf.setCell ?_ (by first | exact Nat.le_refl _ | (simp; done) | omega | (simp; omega)) _))))) hlen).mono ?_
  rintro e _ ⟨A1, c1, Y, err, rfl, hY, hgv, ⟨x1, rfl⟩⟩
  have hyl := hY.len
  by_cases he : err = 0
  case neg =>
    rw [apartV_bad hgv he] at HA
    obtain rfl := HA.out
    have g1 : (err != 0) = true := by simpa using he
    clear hgv hY he
    go_wp2_with fail
    go_returns
    exact ⟨rfl, by (repeat (first | (with_reducible exact SinceOf.refl _) | (with_reducible assumption) | (with_reducible refine SinceOf.alloc ?_ _) | (with_reducible refine SinceOf.drew ?_) | (with_reducible refine SinceOf.drewN ?_ _) | (with_reducible refine SinceOf.later ?_ _) | (with_reducible refine SinceOf.further ?_ _) | (with_reducible refine SinceOf.setCell ?_ (by first | exact Nat.le_refl _ | (simp; done) | omega | (simp; omega)) _)))⟩
  subst he
  have HY := Lib.hid (And.intro hY hgv)
  clear hY hgv
  go_wp2_with fail
  go_loopg [27] Z.length (fun gas s27 wr => ∃ i : Nat, i ≤ Z.length ∧ Z.length - i ≤ gas ∧ s27 = .int .i64 i ∧ SinceOf x1.wd wr ∧ Z.all (fun x => convexB x.xs) = (Z.drop i).all (fun x => convexB x.xs))
  case atStart => exact ⟨0, by omega, by omega, rfl, by (repeat (first | (with_reducible exact SinceOf.refl _) | (with_reducible assumption) | (with_reducible refine SinceOf.alloc ?_ _) | (with_reducible refine SinceOf.drew ?_) | (with_reducible refine SinceOf.drewN ?_ _) | (with_reducible refine SinceOf.later ?_ _) | (with_reducible refine SinceOf.further ?_ _) | (with_reducible refine SinceOf.setCell ?_ (by first | exact Nat.le_refl _ | (simp; done) | omega | (simp; omega)) _))), by rw [List.drop_zero]⟩
  case round =>
    obtain ⟨i, hi, hgas, rfl, ⟨z, rfl⟩, hall⟩ := hrel
    by_cases hlt : i < Z.length
    · rw [all_dropG _ hlt] at hall
      have hX := HZ.out.of (w' := z.wd) (by (repeat (first | (with_reducible exact SinceOf.refl _) | (with_reducible assumption) | (with_reducible refine SinceOf.alloc ?_ _) | (with_reducible refine SinceOf.drew ?_) | (with_reducible refine SinceOf.drewN ?_ _) | (with_reducible refine SinceOf.later ?_ _) | (with_reducible refine SinceOf.further ?_ _) | (with_reducible refine SinceOf.setCell ?_ (by first | exact Nat.le_refl _ | (simp; done) | omega | (simp; omega)) _))))
      have hx := hX.all _ (List.getElem_mem hlt)
      obtain ⟨g, off, rfl, hr⟩ := hX.row.at_ (by omega)
      have hO := hr.there
      have k0 := hr.g0 i hlt
      have CV := fun W (hW : SinceOf z.wd W) => convex_any Z[i].A Z[i].c Z[i].xs W (hx.1.of hW) hx.2
      generalize Z[i] = x at *
      cases hcv : convexB x.xs
      · rw [hcv] at CV hall
        rw [apartV_flat HY.out.2 (by rw [vxs_all (α := Nat)]; exact hall)] at HA
        obtain rfl := HA.out
        clear hall hcv hx hr hX
        go_wp2_with fail
        refine (CV _ (by (repeat (first | (with_reducible exact SinceOf.refl _) | (with_reducible assumption) | (with_reducible refine SinceOf.alloc ?_ _) | (with_reducible refine SinceOf.drew ?_) | (with_reducible refine SinceOf.drewN ?_ _) | (with_reducible refine SinceOf.later ?_ _) | (with_reducible refine SinceOf.further ?_ _) | (with_reducible refine SinceOf.setCell ?_ (by first | exact Nat.le_refl _ | (simp; done) | omega | (simp; omega)) _))))).calls.mono ?_
        rintro e _ ⟨rfl, x2, rfl⟩
        go_wp2_with fail
        go_returns
        exact ⟨rfl, by (repeat (first | (with_reducible exact SinceOf.refl _) | (with_reducible assumption) | (with_reducible refine SinceOf.alloc ?_ _) | (with_reducible refine SinceOf.drew ?_) | (with_reducible refine SinceOf.drewN ?_ _) | (with_reducible refine SinceOf.later ?_ _) | (with_reducible refine SinceOf.further ?_ _) | (with_reducible refine SinceOf.setCell ?_ (by first | exact Nat.le_refl _ | (simp; done) | omega | (simp; omega)) _)))⟩
      · rw [hcv, Bool.true_and] at hall
        rw [hcv] at CV
        have HL := Lib.hid hall
        clear hall hcv hx hr hX
        go_wp2_with fail
        refine (CV _ (by (repeat (first | (with_reducible exact SinceOf.refl _) | (with_reducible assumption) | (with_reducible refine SinceOf.alloc ?_ _) | (with_reducible refine SinceOf.drew ?_) | (with_reducible refine SinceOf.drewN ?_ _) | (with_reducible refine SinceOf.later ?_ _) | (with_reducible refine SinceOf.further ?_ _) | (with_reducible refine SinceOf.setCell ?_ (by first | exact Nat.le_refl _ | (simp; done) | omega | (simp; omega)) _))))).calls.mono ?_
        rintro e _ ⟨rfl, x2, rfl⟩
        go_wp2_with fail
        go_roundg (Z.length - (i + 1))
        case measure => omega
        case rel => exact ⟨i + 1, hlt, Nat.le_refl _, by go_num, by (repeat (first | (with_reducible exact SinceOf.refl _) | (with_reducible assumption) | (with_reducible refine SinceOf.alloc ?_ _) | (with_reducible refine SinceOf.drew ?_) | (with_reducible refine SinceOf.drewN ?_ _) | (with_reducible refine SinceOf.later ?_ _) | (with_reducible refine SinceOf.further ?_ _) | (with_reducible refine SinceOf.setCell ?_ (by first | exact Nat.le_refl _ | (simp; done) | omega | (simp; omega)) _))), HL.out⟩
    · obtain rfl : i = Z.length := by omega
      rw [List.drop_length] at hall
      have hbc : (vxs Z).all convexB = true := by rw [vxs_all (α := Nat)]; exact hall
      rw [apartV_ok HY.out.2 hbc] at HA
      have HB := Lib.hid hbc
      clear hall hbc hlt hi hgas
      go_wp2_with fail
      go_loopg [37] Y.length (fun gas s37 wr => ∃ i : Nat, i ≤ Y.length ∧ Y.length - i ≤ gas ∧ s37 = .int .i64 i ∧ SinceOf z.wd wr ∧ Y.all (fun y => (vxs Z).all (sepPair y.xs)) = (Y.drop i).all (fun y => (vxs Z).all (sepPair y.xs)))
      case atStart => exact ⟨0, by omega, by omega, rfl, by (repeat (first | (with_reducible exact SinceOf.refl _) | (with_reducible assumption) | (with_reducible refine SinceOf.alloc ?_ _) | (with_reducible refine SinceOf.drew ?_) | (with_reducible refine SinceOf.drewN ?_ _) | (with_reducible refine SinceOf.later ?_ _) | (with_reducible refine SinceOf.further ?_ _) | (with_reducible refine SinceOf.setCell ?_ (by first | exact Nat.le_refl _ | (simp; done) | omega | (simp; omega)) _))), by rw [List.drop_zero]⟩
      case round =>
        obtain ⟨i, hi, hgas, rfl, ⟨u, rfl⟩, hall⟩ := hrel
        by_cases hlt : i < Y.length
        · rw [all_dropG _ hlt, vxs_all (α := Nat)] at hall
          have hX := HY.out.1.of (w' := u.wd) (by (repeat (first | (with_reducible exact SinceOf.refl _) | (with_reducible assumption) | (with_reducible refine SinceOf.alloc ?_ _) | (with_reducible refine SinceOf.drew ?_) | (with_reducible refine SinceOf.drewN ?_ _) | (with_reducible refine SinceOf.later ?_ _) | (with_reducible refine SinceOf.further ?_ _) | (with_reducible refine SinceOf.setCell ?_ (by first | exact Nat.le_refl _ | (simp; done) | omega | (simp; omega)) _))))
          have hx := hX.all _ (List.getElem_mem hlt)
          obtain ⟨g, off, rfl, hr⟩ := hX.row.at_ (by omega)
          have hO := hr.there
          have k0 := hr.g0 i hlt
          generalize Y[i] = y at *
          have HL := Lib.hid (And.intro hall hx)
          clear hall hr hX hx
          go_wp2_with fail
          go_loopg [43] Z.length (fun gas s43 wr => ∃ j : Nat, j ≤ Z.length ∧ Z.length - j ≤ gas ∧ s43 = .int .i64 j ∧ SinceOf u.wd wr ∧ Z.all (fun x => sepPair y.xs x.xs) = (Z.drop j).all (fun x => sepPair y.xs x.xs))
          case atStart => exact ⟨0, by omega, by omega, rfl, by (repeat (first | (with_reducible exact SinceOf.refl _) | (with_reducible assumption) | (with_reducible refine SinceOf.alloc ?_ _) | (with_reducible refine SinceOf.drew ?_) | (with_reducible refine SinceOf.drewN ?_ _) | (with_reducible refine SinceOf.later ?_ _) | (with_reducible refine SinceOf.further ?_ _) | (with_reducible refine SinceOf.setCell ?_ (by first | exact Nat.le_refl _ | (simp; done) | omega | (simp; omega)) _))), by rw [List.drop_zero]⟩
          case round =>
            obtain ⟨j, hj, hgas2, rfl, ⟨v, rfl⟩, hin⟩ := hrel
            by_cases hlt2 : j < Z.length
            · rw [all_dropG _ hlt2] at hin
              have hX := HZ.out.of (w' := v.wd) (by (repeat (first | (with_reducible exact SinceOf.refl _) | (with_reducible assumption) | (with_reducible refine SinceOf.alloc ?_ _) | (with_reducible refine SinceOf.drew ?_) | (with_reducible refine SinceOf.drewN ?_ _) | (with_reducible refine SinceOf.later ?_ _) | (with_reducible refine SinceOf.further ?_ _) | (with_reducible refine SinceOf.setCell ?_ (by first | exact Nat.le_refl _ | (simp; done) | omega | (simp; omega)) _))))
              have hx := hX.all _ (List.getElem_mem hlt2)
              obtain ⟨g2, off2, rfl, hr⟩ := hX.row.at_ (by omega)
              have hO2 := hr.there
              have k2 := hr.g0 j hlt2
              generalize Z[j] = x at *
              have S1 := fun W (hW : SinceOf v.wd W) => separated_any y.A x.A y.c x.c y.xs x.xs W (HL.out.2.1.of (SinceOf.trans ⟨v, rfl⟩ hW)) (hx.1.of hW) HL.out.2.2 hx.2
              have S2 := fun W (hW : SinceOf v.wd W) => separated_any x.A y.A x.c y.c x.xs y.xs W (hx.1.of hW) (HL.out.2.1.of (SinceOf.trans ⟨v, rfl⟩ hW)) hx.2 HL.out.2.2
              rw [show sepPair y.xs x.xs = (sepB y.xs x.xs || sepB x.xs y.xs) from rfl] at hin
              clear hr hX hx
              cases h1 : sepB y.xs x.xs
              · cases h2 : sepB x.xs y.xs
                · rw [h1, h2] at hin
                  rw [h1] at S1
                  rw [h2] at S2
                  have hout := HL.out.1
                  rw [hin] at hout
                  have hap := HA.out
                  rw [vxs_all (α := Nat), hout] at hap
                  subst hap
                  clear hin hout h1 h2
                  go_wp2_with fail
                  refine (S1 _ (by (repeat (first | (with_reducible exact SinceOf.refl _) | (with_reducible assumption) | (with_reducible refine SinceOf.alloc ?_ _) | (with_reducible refine SinceOf.drew ?_) | (with_reducible refine SinceOf.drewN ?_ _) | (with_reducible refine SinceOf.later ?_ _) | (with_reducible refine SinceOf.further ?_ _) | (with_reducible refine SinceOf.setCell ?_ (by first | exact Nat.le_refl _ | (simp; done) | omega | (simp; omega)) _))))).calls.mono ?_
                  rintro e _ ⟨rfl, x2, rfl⟩
                  go_wp2_with fail
                  refine (S2 _ (by (repeat (first | (with_reducible exact SinceOf.refl _) | (with_reducible assumption) | (with_reducible refine SinceOf.alloc ?_ _) | (with_reducible refine SinceOf.drew ?_) | (with_reducible refine SinceOf.drewN ?_ _) | (with_reducible refine SinceOf.later ?_ _) | (with_reducible refine SinceOf.further ?_ _) | (with_reducible refine SinceOf.setCell ?_ (by first | exact Nat.le_refl _ | (simp; done) | omega | (simp; omega)) _))))).calls.mono ?_
                  rintro e _ ⟨rfl, x3, rfl⟩
                  go_wp2_with fail
                  go_returns
                  exact ⟨rfl, by (repeat (first | (with_reducible exact SinceOf.refl _) | (with_reducible assumption) | (with_reducible refine SinceOf.alloc ?_ _) | (with_reducible refine SinceOf.drew ?_) | (with_reducible refine SinceOf.drewN ?_ _) | (with_reducible refine SinceOf.later ?_ _) | (with_reducible refine SinceOf.further ?_ _) | (with_reducible refine SinceOf.setCell ?_ (by first | exact Nat.le_refl _ | (simp; done) | omega | (simp; omega)) _)))⟩
                · rw [h1, h2] at hin
                  rw [h1] at S1
                  rw [h2] at S2
                  have HI := Lib.hid (show _ = (Z.drop (j + 1)).all (fun x => sepPair y.xs x.xs) from hin)
                  clear hin h1 h2
                  go_wp2_with fail
                  refine (S1 _ (by (repeat (first | (with_reducible exact SinceOf.refl _) | (with_reducible assumption) | (with_reducible refine SinceOf.alloc ?_ _) | (with_reducible refine SinceOf.drew ?_) | (with_reducible refine SinceOf.drewN ?_ _) | (with_reducible refine SinceOf.later ?_ _) | (with_reducible refine SinceOf.further ?_ _) | (with_reducible refine SinceOf.setCell ?_ (by first | exact Nat.le_refl _ | (simp; done) | omega | (simp; omega)) _))))).calls.mono ?_
                  rintro e _ ⟨rfl, x2, rfl⟩
                  go_wp2_with fail
                  refine (S2 _ (by (repeat (first | (with_reducible exact SinceOf.refl _) | (with_reducible assumption) | (with_reducible refine SinceOf.alloc ?_ _) | (with_reducible refine SinceOf.drew ?_) | (with_reducible refine SinceOf.drewN ?_ _) | (with_reducible refine SinceOf.later ?_ _) | (with_reducible refine SinceOf.further ?_ _) | (with_reducible refine SinceOf.setCell ?_ (by first | exact Nat.le_refl _ | (simp; done) | omega | (simp; omega)) _))))).calls.mono ?_
                  rintro e _ ⟨rfl, x3, rfl⟩
                  go_wp2_with fail
                  go_roundg (Z.length - (j + 1))
                  case measure => omega
                  case rel => exact ⟨j + 1, hlt2, Nat.le_refl _, by go_num, by (repeat (first | (with_reducible exact SinceOf.refl _) | (with_reducible assumption) | (with_reducible refine SinceOf.alloc ?_ _) | (with_reducible refine SinceOf.drew ?_) | (with_reducible refine SinceOf.drewN ?_ _) | (with_reducible refine SinceOf.later ?_ _) | (with_reducible refine SinceOf.further ?_ _) | (with_reducible refine SinceOf.setCell ?_ (by first | exact Nat.le_refl _ | (simp; done) | omega | (simp; omega)) _))), HI.out⟩
              · rw [h1] at hin S1
                have HI := Lib.hid (show _ = (Z.drop (j + 1)).all (fun x => sepPair y.xs x.xs) from hin)
                clear hin h1
                go_wp2_with fail
                refine (S1 _ (by (repeat (first | (with_reducible exact SinceOf.refl _) | (with_reducible assumption) | (with_reducible refine SinceOf.alloc ?_ _) | (with_reducible refine SinceOf.drew ?_) | (with_reducible refine SinceOf.drewN ?_ _) | (with_reducible refine SinceOf.later ?_ _) | (with_reducible refine SinceOf.further ?_ _) | (with_reducible refine SinceOf.setCell ?_ (by first | exact Nat.le_refl _ | (simp; done) | omega | (simp; omega)) _))))).calls.mono ?_
                rintro e _ ⟨rfl, x2, rfl⟩
                go_wp2_with fail
                go_roundg (Z.length - (j + 1))
                case measure => omega
                case rel => exact ⟨j + 1, hlt2, Nat.le_refl _, by go_num, by (repeat (first | (with_reducible exact SinceOf.refl _) | (with_reducible assumption) | (with_reducible refine SinceOf.alloc ?_ _) | (with_reducible refine SinceOf.drew ?_) | (with_reducible refine SinceOf.drewN ?_ _) | (with_reducible refine SinceOf.later ?_ _) | (with_reducible refine SinceOf.further ?_ _) | (with_reducible refine SinceOf.setCell ?_ (by first | exact Nat.le_refl _ | (simp; done) | omega | (simp; omega)) _))), HI.out⟩
            · obtain rfl : j = Z.length := by omega
              rw [List.drop_length] at hin
              have hout := HL.out.1
              rw [hin] at hout
              have HI := Lib.hid (show _ = (Y.drop (i + 1)).all (fun y => (vxs Z).all (sepPair y.xs)) from hout)
              clear hin hout
              go_wp2_with fail
              go_roundg (Y.length - (i + 1))
              case measure => omega
              case rel => exact ⟨i + 1, hlt, Nat.le_refl _, by go_num, by (repeat (first | (with_reducible exact SinceOf.refl _) | (with_reducible assumption) | (with_reducible refine SinceOf.alloc ?_ _) | (with_reducible refine SinceOf.drew ?_) | (with_reducible refine SinceOf.drewN ?_ _) | (with_reducible refine SinceOf.later ?_ _) | (with_reducible refine SinceOf.further ?_ _) | (with_reducible refine SinceOf.setCell ?_ (by first | exact Nat.le_refl _ | (simp; done) | omega | (simp; omega)) _))), HI.out⟩
        · obtain rfl : i = Y.length := by omega
          rw [List.drop_length] at hall
          have hap := HA.out
          rw [vxs_all (α := Nat), hall] at hap
          subst hap
          clear hall
          go_wp2_with fail
          go_returns
          exact ⟨rfl, by (repeat (first | (with_reducible exact SinceOf.refl _) | (with_reducible assumption) | (with_reducible refine SinceOf.alloc ?_ _) | (with_reducible refine SinceOf.drew ?_) | (with_reducible refine SinceOf.drewN ?_ _) | (with_reducible refine SinceOf.later ?_ _) | (with_reducible refine SinceOf.further ?_ _) | (with_reducible refine SinceOf.setCell ?_ (by first | exact Nat.le_refl _ | (simp; done) | omega | (simp; omega)) _)))⟩
set_option maxRecDepth 100000 in
set_option maxHeartbeats 16000000 in
theorem refApart_any (A B : Option Addr) (c d : Nat) (X Z : List RgR) (k : Int) (w : World) (h : IsRings w A c X) (hz : IsRings w B d Z) (hlen : X.length ≤ 1000) :
    Calls Try.prog 49 #[.slice A X.length c, .slice B Z.length d, .int .i64 k] w fun e w' => e = .returned (.tuple #[.bool (apartV (vxs X) (vxs Z) k).1, .int .i64 (apartV (vxs X) (vxs Z) k).2]) ∧ SinceOf w w' := by
  have H := Lib.hid h
  have HZ := Lib.hid hz
  have hzl := hz.len
  clear h hz
  generalize hap : apartV (vxs X) (vxs Z) k = ap
  have HA := Lib.hid hap
  clear hap
  go_enter Try.func49, Try.ntmps49
  go_wp2_with fail
  refine (refGrow_any A c X k _ (H.out.of (by (repeat (first | (with_reducible exact SinceOf.refl _) | (with_reducible assumption) | (with_reducible refine SinceOf.alloc ?_ _) | (with_reducible refine SinceOf.drew ?_) | (with_reducible refine SinceOf.drewN ?_ _) | (with_reducible refine SinceOf.later ?_ _) | (with_reducible refine SinceOf.further ?_ _) | (with_reducible refine SinceOf.setCell ?_ (by first | exact Nat.le_refl _ | (simp; done) | omega | (simp; omega)) _))))) hlen).mono ?_
  rintro e _ ⟨A1, c1, Y, err, rfl, hY, hgv, ⟨x1, rfl⟩⟩
  have hyl := hY.len
  by_cases he : err = 0
  case neg =>
    rw [apartV_bad hgv he] at HA
    obtain rfl := HA.out
    have g1 : (err != 0) = true := by simpa using he
    clear hgv hY he
    go_wp2_with fail
    go_returns
    exact ⟨rfl, by (repeat (first | (with_reducible exact SinceOf.refl _) | (with_reducible assumption) | (with_reducible refine SinceOf.alloc ?_ _) | (with_reducible refine SinceOf.drew ?_) | (with_reducible refine SinceOf.drewN ?_ _) | (with_reducible refine SinceOf.later ?_ _) | (with_reducible refine SinceOf.further ?_ _) | (with_reducible refine SinceOf.setCell ?_ (by first | exact Nat.le_refl _ | (simp; done) | omega | (simp; omega)) _)))⟩
  subst he
  have HY := Lib.hid (And.intro hY hgv)
  clear hY hgv
  go_wp2_with fail
  go_loopg [10] Z.length (fun gas s27 wr => ∃ i : Nat, i ≤ Z.length ∧ Z.length - i ≤ gas ∧ s27 = .int .i64 i ∧ SinceOf x1.wd wr ∧ Z.all (fun x => convexB x.xs) = (Z.drop i).all (fun x => convexB x.xs))
  case atStart => exact ⟨0, by omega, by omega, rfl, by (repeat (first | (with_reducible exact SinceOf.refl _) | (with_reducible assumption) | (with_reducible refine SinceOf.alloc ?_ _) | (with_reducible refine SinceOf.drew ?_) | (with_reducible refine SinceOf.drewN ?_ _) | (with_reducible refine SinceOf.later ?_ _) | (with_reducible refine SinceOf.further ?_ _) | (with_reducible refine SinceOf.setCell ?_ (by first | exact Nat.le_refl _ | (simp; done) | omega | (simp; omega)) _))), by rw [List.drop_zero]⟩
  case round =>
    obtain ⟨i, hi, hgas, rfl, ⟨z, rfl⟩, hall⟩ := hrel
    by_cases hlt : i < Z.length
    · rw [all_dropG _ hlt] at hall
      have hX := HZ.out.of (w' := z.wd) (by (repeat (first | (with_reducible exact SinceOf.refl _) | (with_reducible assumption) | (with_reducible refine SinceOf.alloc ?_ _) | (with_reducible refine SinceOf.drew ?_) | (with_reducible refine SinceOf.drewN ?_ _) | (with_reducible refine SinceOf.later ?_ _) | (with_reducible refine SinceOf.further ?_ _) | (with_reducible refine SinceOf.setCell ?_ (by first | exact Nat.le_refl _ | (simp; done) | omega | (simp; omega)) _))))
      have hx := hX.all _ (List.getElem_mem hlt)
      obtain ⟨g, off, rfl, hr⟩ := hX.row.at_ (by omega)
      have hO := hr.there
      have k0 := hr.g0 i hlt
      have CV := fun W (hW : SinceOf z.wd W) => refConvex_any Z[i].A Z[i].c Z[i].xs W (hx.1.of hW) hx.2
      generalize Z[i] = x at *
      cases hcv : convexB x.xs
      · rw [hcv] at CV hall
        rw [apartV_flat HY.out.2 (by rw [vxs_all (α := Nat)]; exact hall)] at HA
        obtain rfl := HA.out
        clear hall hcv hx hr hX
        go_wp2_with fail
        refine (CV _ (by (repeat (first | (with_reducible exact SinceOf.refl _) | (with_reducible assumption) | (with_reducible refine SinceOf.alloc ?_ _) | (with_reducible refine SinceOf.drew ?_) | (with_reducible refine SinceOf.drewN ?_ _) | (with_reducible refine SinceOf.later ?_ _) | (with_reducible refine SinceOf.further ?_ _) | (with_reducible refine SinceOf.setCell ?_ (by first | exact Nat.le_refl _ | (simp; done) | omega | (simp; omega)) _))))).calls.mono ?_
        rintro e _ ⟨rfl, x2, rfl⟩
        go_wp2_with fail
        go_returns
        exact ⟨rfl, by (repeat (first | (with_reducible exact SinceOf.refl _) | (with_reducible assumption) | (with_reducible refine SinceOf.alloc ?_ _) | (with_reducible refine SinceOf.drew ?_) | (with_reducible refine SinceOf.drewN ?_ _) | (with_reducible refine SinceOf.later ?_ _) | (with_reducible refine SinceOf.further ?_ _) | (with_reducible refine SinceOf.setCell ?_ (by first | exact Nat.le_refl _ | (simp; done) | omega | (simp; omega)) _)))⟩
      · rw [hcv, Bool.true_and] at hall
        rw [hcv] at CV
        have HL := Lib.hid hall
        clear hall hcv hx hr hX
        go_wp2_with fail
        refine (CV _ (by (repeat (first | (with_reducible exact SinceOf.refl _) | (with_reducible assumption) | (with_reducible refine SinceOf.alloc ?_ _) | (with_reducible refine SinceOf.drew ?_) | (with_reducible refine SinceOf.drewN ?_ _) | (with_reducible refine SinceOf.later ?_ _) | (with_reducible refine SinceOf.further ?_ _) | (with_reducible refine SinceOf.setCell ?_ (by first | exact Nat.le_refl _ | (simp; done) | omega | (simp; omega)) _))))).calls.mono ?_
        rintro e _ ⟨rfl, x2, rfl⟩
        go_wp2_with fail
        go_roundg (Z.length - (i + 1))
        case measure => omega
        case rel => exact ⟨i + 1, hlt, Nat.le_refl _, by go_num, by (repeat (first | (with_reducible exact SinceOf.refl _) | (with_reducible assumption) | (with_reducible refine SinceOf.alloc ?_ _) | (with_reducible refine SinceOf.drew ?_) | (with_reducible refine SinceOf.drewN ?_ _) | (with_reducible refine SinceOf.later ?_ _) | (with_reducible refine SinceOf.further ?_ _) | (with_reducible refine SinceOf.setCell ?_ (by first | exact Nat.le_refl _ | (simp; done) | omega | (simp; omega)) _))), HL.out⟩
    · obtain rfl : i = Z.length := by omega
      rw [List.drop_length] at hall
      have hbc : (vxs Z).all convexB = true := by rw [vxs_all (α := Nat)]; exact hall
      rw [apartV_ok HY.out.2 hbc] at HA
      have HB := Lib.hid hbc
      clear hall hbc hlt hi hgas
      go_wp2_with fail
      go_loopg [11] Y.length (fun gas s37 wr => ∃ i : Nat, i ≤ Y.length ∧ Y.length - i ≤ gas ∧ s37 = .int .i64 i ∧ SinceOf z.wd wr ∧ Y.all (fun y => (vxs Z).all (sepPair y.xs)) = (Y.drop i).all (fun y => (vxs Z).all (sepPair y.xs)))
      case atStart => exact ⟨0, by omega, by omega, rfl, by (repeat (first | (with_reducible exact SinceOf.refl _) | (with_reducible assumption) | (with_reducible refine SinceOf.alloc ?_ _) | (with_reducible refine SinceOf.drew ?_) | (with_reducible refine SinceOf.drewN ?_ _) | (with_reducible refine SinceOf.later ?_ _) | (with_reducible refine SinceOf.further ?_ _) | (with_reducible refine SinceOf.setCell ?_ (by first | exact Nat.le_refl _ | (simp; done) | omega | (simp; omega)) _))), by rw [List.drop_zero]⟩
      case round =>
        obtain ⟨i, hi, hgas, rfl, ⟨u, rfl⟩, hall⟩ := hrel
        by_cases hlt : i < Y.length
        · rw [all_dropG _ hlt, vxs_all (α := Nat)] at hall
          have HL := Lib.hid hall
          clear hall
          go_wp2_with fail
          go_loopg [12] Z.length (fun gas s43 wr => ∃ j : Nat, j ≤ Z.length ∧ Z.length - j ≤ gas ∧ s43 = .int .i64 j ∧ SinceOf u.wd wr ∧ Z.all (fun x => sepPair Y[i].xs x.xs) = (Z.drop j).all (fun x => sepPair Y[i].xs x.xs))
          case atStart => exact ⟨0, by omega, by omega, rfl, by (repeat (first | (with_reducible exact SinceOf.refl _) | (with_reducible assumption) | (with_reducible refine SinceOf.alloc ?_ _) | (with_reducible refine SinceOf.drew ?_) | (with_reducible refine SinceOf.drewN ?_ _) | (with_reducible refine SinceOf.later ?_ _) | (with_reducible refine SinceOf.further ?_ _) | (with_reducible refine SinceOf.setCell ?_ (by first | exact Nat.le_refl _ | (simp; done) | omega | (simp; omega)) _))), by rw [List.drop_zero]⟩
          case round =>
            obtain ⟨j, hj, hgas2, rfl, ⟨v, rfl⟩, hin⟩ := hrel
            by_cases hlt2 : j < Z.length
            · rw [all_dropG _ hlt2] at hin
              have hX := HZ.out.of (w' := v.wd) (by (repeat (first | (with_reducible exact SinceOf.refl _) | (with_reducible assumption) | (with_reducible refine SinceOf.alloc ?_ _) | (with_reducible refine SinceOf.drew ?_) | (with_reducible refine SinceOf.drewN ?_ _) | (with_reducible refine SinceOf.later ?_ _) | (with_reducible refine SinceOf.further ?_ _) | (with_reducible refine SinceOf.setCell ?_ (by first | exact Nat.le_refl _ | (simp; done) | omega | (simp; omega)) _))))
              have hx := hX.all _ (List.getElem_mem hlt2)
              have hxc : convexB Z[j].xs = true := List.all_eq_true.1 HB.out _ (List.mem_map.2 ⟨Z[j], List.getElem_mem hlt2, rfl⟩)
              obtain ⟨g2, off2, rfl, hr⟩ := hX.row.at_ (by omega)
              have hO2 := hr.there
              have k2 := hr.g0 j hlt2
              have hX1 := HY.out.1.of (w' := v.wd) (by (repeat (first | (with_reducible exact SinceOf.refl _) | (with_reducible assumption) | (with_reducible refine SinceOf.alloc ?_ _) | (with_reducible refine SinceOf.drew ?_) | (with_reducible refine SinceOf.drewN ?_ _) | (with_reducible refine SinceOf.later ?_ _) | (with_reducible refine SinceOf.further ?_ _) | (with_reducible refine SinceOf.setCell ?_ (by first | exact Nat.le_refl _ | (simp; done) | omega | (simp; omega)) _))))
              have hy := hX1.all _ (List.getElem_mem hlt)
              have hyc : convexB Y[i].xs = true := growV_convex HY.out.2 _ (List.mem_map.2 ⟨Y[i], List.getElem_mem hlt, rfl⟩)
              obtain ⟨g, off, rfl, hr1⟩ := hX1.row.at_ (by omega)
              have hO := hr1.there
              have k1 := hr1.g0 i hlt
              have OV := fun W (hW : SinceOf v.wd W) => refOverlap_any Y[i].A Z[j].A Y[i].c Z[j].c Y[i].xs Z[j].xs W (hy.1.of hW) (hx.1.of hW) hy.2 hx.2
              rw [show overlapR Y[i].xs Z[j].xs = (!sepPair Y[i].xs Z[j].xs, 0) from by unfold overlapR; rw [hxc, hyc]; rfl] at OV
              clear hr hX hx hX1 hy hr1 hxc hyc
              cases h1 : sepPair Y[i].xs Z[j].xs
              · rw [h1] at hin OV
                have hout := HL.out
                rw [hin] at hout
                have hap := HA.out
                rw [vxs_all (α := Nat), hout] at hap
                subst hap
                clear hin hout h1
                generalize Y[i] = y at *
                generalize Z[j] = x at *
                go_wp2_with fail
                refine region_later (by kernel_rfl) (by kernel_rfl) ?_
                repeat (go_big_quiet_step ((with_reducible refine Gives.later (OV _ (by (repeat (first | (with_reducible exact SinceOf.refl _) | (with_reducible assumption) | (with_reducible refine SinceOf.alloc ?_ _) | (with_reducible refine SinceOf.drew ?_) | (with_reducible refine SinceOf.drewN ?_ _) | (with_reducible refine SinceOf.later ?_ _) | (with_reducible refine SinceOf.further ?_ _) | (with_reducible refine SinceOf.setCell ?_ (by first | exact Nat.le_refl _ | (simp; done) | omega | (simp; omega)) _))))))))
                refine wpQuiet_nil ?_
                rintro _ ⟨z4, rfl⟩
                go_wp2_with fail
                go_returns
                exact ⟨rfl, by (repeat (first | (with_reducible exact SinceOf.refl _) | (with_reducible assumption) | (with_reducible refine SinceOf.alloc ?_ _) | (with_reducible refine SinceOf.drew ?_) | (with_reducible refine SinceOf.drewN ?_ _) | (with_reducible refine SinceOf.later ?_ _) | (with_reducible refine SinceOf.further ?_ _) | (with_reducible refine SinceOf.setCell ?_ (by first | exact Nat.le_refl _ | (simp; done) | omega | (simp; omega)) _)))⟩
              · rw [h1, Bool.true_and] at hin
                rw [h1] at OV
                have HI := Lib.hid hin
                clear hin h1
                have HL2 := Lib.hid (And.intro HL HI)
                clear HL HI
                generalize Y[i] = y at *
                generalize Z[j] = x at *
                go_wp2_with fail
                refine region_later (by kernel_rfl) (by kernel_rfl) ?_
                repeat (go_big_quiet_step ((with_reducible refine Gives.later (OV _ (by (repeat (first | (with_reducible exact SinceOf.refl _) | (with_reducible assumption) | (with_reducible refine SinceOf.alloc ?_ _) | (with_reducible refine SinceOf.drew ?_) | (with_reducible refine SinceOf.drewN ?_ _) | (with_reducible refine SinceOf.later ?_ _) | (with_reducible refine SinceOf.further ?_ _) | (with_reducible refine SinceOf.setCell ?_ (by first | exact Nat.le_refl _ | (simp; done) | omega | (simp; omega)) _))))))))
                refine wpQuiet_nil ?_
                rintro _ ⟨z4, rfl⟩
                go_wp2_with fail
                go_roundg (Z.length - (j + 1))
                case measure => omega
                case rel => exact ⟨j + 1, hlt2, Nat.le_refl _, by go_num, by (repeat (first | (with_reducible exact SinceOf.refl _) | (with_reducible assumption) | (with_reducible refine SinceOf.alloc ?_ _) | (with_reducible refine SinceOf.drew ?_) | (with_reducible refine SinceOf.drewN ?_ _) | (with_reducible refine SinceOf.later ?_ _) | (with_reducible refine SinceOf.further ?_ _) | (with_reducible refine SinceOf.setCell ?_ (by first | exact Nat.le_refl _ | (simp; done) | omega | (simp; omega)) _))), HL2.out.2.out⟩
            · obtain rfl : j = Z.length := by omega
              rw [List.drop_length] at hin
              have hout := HL.out
              rw [hin] at hout
              have HI := Lib.hid (show _ = (Y.drop (i + 1)).all (fun y => (vxs Z).all (sepPair y.xs)) from hout)
              clear hin hout HL
              go_wp2_with fail
              go_roundg (Y.length - (i + 1))
              case measure => omega
              case rel => exact ⟨i + 1, hlt, Nat.le_refl _, by go_num, by (repeat (first | (with_reducible exact SinceOf.refl _) | (with_reducible assumption) | (with_reducible refine SinceOf.alloc ?_ _) | (with_reducible refine SinceOf.drew ?_) | (with_reducible refine SinceOf.drewN ?_ _) | (with_reducible refine SinceOf.later ?_ _) | (with_reducible refine SinceOf.further ?_ _) | (with_reducible refine SinceOf.setCell ?_ (by first | exact Nat.le_refl _ | (simp; done) | omega | (simp; omega)) _))), HI.out⟩
        · obtain rfl : i = Y.length := by omega
          rw [List.drop_length] at hall
          have hap := HA.out
          rw [vxs_all (α := Nat), hall] at hap
          subst hap
          clear hall
          go_wp2_with fail
          go_returns
          exact ⟨rfl, by (repeat (first | (with_reducible exact SinceOf.refl _) | (with_reducible assumption) | (with_reducible refine SinceOf.alloc ?_ _) | (with_reducible refine SinceOf.drew ?_) | (with_reducible refine SinceOf.drewN ?_ _) | (with_reducible refine SinceOf.later ?_ _) | (with_reducible refine SinceOf.further ?_ _) | (with_reducible refine SinceOf.setCell ?_ (by first | exact Nat.le_refl _ | (simp; done) | omega | (simp; omega)) _)))⟩
end Go.Proofs.Yticmfmcflikneaa
