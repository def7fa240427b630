/- Layer 10: the walk of HullAgain. -/
import Derived.Test.YticmfmcflikneaaHull31
namespace Go.Proofs.Yticmfmcflikneaa
open Go.RowKit Go.Sort
set_option linter.unusedVariables false
set_option linter.unusedSimpArgs false
attribute [local go_sem ↓] Go.wp_at_zero Go.wp_at_succ

theorem isRow_at2V (W : World) (g : Nat) (a b x y : Int) (hg : W.heap.size = g) : IsVecs (W.alloc (.cells #[.int .i64 a, .int .i64 b, .int .i64 x, .int .i64 y] 32)) (some ⟨g, 0, none⟩) 2 [(a, b), (x, y)] := by
  subst hg
  have h : OwnVecs W.heap.size (W.alloc (.cells #[.int .i64 a, .int .i64 b, .int .i64 x, .int .i64 y] 32)) (some ⟨W.heap.size, 0, none⟩) 2 [(a, b), (x, y)] := World.ownsRow_lit W _ 2 (Nat.le_refl _) (by decide) rfl
  exact h.isRow encV_len
theorem rev_hull {l r : List Pt} (h : HullY l r) : HullY l.reverse r :=
  h.more (fun q hq => List.mem_reverse.1 hq) (fun v hv => List.mem_reverse.2 (h.hull.sub v hv))
theorem again_cases {l m : List Pt} {b : Bool} (hb : b = (smallB l && smallB m)) : b = false ∨ (smallB l = true ∧ smallB m = true) := by
  cases h1 : smallB l <;> cases h2 : smallB m <;> simp_all
set_option maxRecDepth 100000 in
set_option maxHeartbeats 16000000 in
theorem hullAgain_any (A B : Option Addr) (c d : Nat) (l m : List (Int × Int)) (t : Nat) (w : World) (h : IsVecs w A c l) (k : IsVecs w B d m) (hlen : l.length < 4611686018427387904) (hlen2 : m.length < 4611686018427387904) (ht : t < 256) :
    Yields Try.prog 4 #[.slice A l.length c, .slice B m.length d, .int .u8 t] w (.bool true) := by
  apply Yields.ret
  have H := Lib.hid (And.intro h k)
  clear h k
  have S1 := fun W (hW : SinceOf w W) => small10_any A c l W (H.out.1.of hW) hlen
  have S2 := fun W (hW : SinceOf w W) => small10_any B d m W (H.out.2.of hW) hlen2
  by_cases hs : (smallB l = true ∧ smallB m = true) ∧ l.length ≤ 15 ∧ m.length ≤ 15
  case neg =>
    have hs' : smallB l = false ∨ (smallB l = true ∧ smallB m = false) ∨ (smallB l = true ∧ smallB m = true ∧ 15 < l.length) ∨ (smallB l = true ∧ smallB m = true ∧ l.length ≤ 15 ∧ 15 < m.length) := by
      cases h1 : smallB l
      · exact .inl rfl
      · cases h2 : smallB m
        · exact .inr (.inl ⟨rfl, rfl⟩)
        · by_cases h3 : 15 < l.length
          · exact .inr (.inr (.inl ⟨rfl, rfl, h3⟩))
          · exact .inr (.inr (.inr ⟨rfl, rfl, by omega, (Nat.lt_or_ge 15 m.length).resolve_right (fun q => hs ⟨⟨h1, h2⟩, by omega, q⟩)⟩))
    clear hs
    rcases hs' with h1 | ⟨h1, h2⟩ | ⟨h1, h2, h3⟩ | ⟨h1, h2, h3, h4⟩
    · rw [h1] at S1
      clear S2
      go_enter Try.func4, Try.ntmps4
      go_wp2_with fail
      refine (awake10_any _).calls.mono ?_
      rintro e _ ⟨rfl, x1, rfl⟩
      go_wp2_with fail
      refine (S1 _ (by (repeat (first | (with_reducible exact SinceOf.refl _) | (with_reducible assumption) | (with_reducible refine SinceOf.alloc ?_ _) | (with_reducible refine SinceOf.drew ?_) | (with_reducible refine SinceOf.drewN ?_ _) | (with_reducible refine SinceOf.later ?_ _) | (with_reducible refine SinceOf.further ?_ _) | (with_reducible refine SinceOf.setCell ?_ (by first | exact Nat.le_refl _ | (simp; done) | omega | (simp; omega)) _))))).calls.mono ?_
      rintro e _ ⟨rfl, x2, rfl⟩
      go_wp2_with fail
      go_returns
      exact ⟨rfl, by (repeat (first | (with_reducible exact SinceOf.refl _) | (with_reducible assumption) | (with_reducible refine SinceOf.alloc ?_ _) | (with_reducible refine SinceOf.drew ?_) | (with_reducible refine SinceOf.drewN ?_ _) | (with_reducible refine SinceOf.later ?_ _) | (with_reducible refine SinceOf.further ?_ _) | (with_reducible refine SinceOf.setCell ?_ (by first | exact Nat.le_refl _ | (simp; done) | omega | (simp; omega)) _)))⟩
    · rw [h1] at S1
      rw [h2] at S2
      go_enter Try.func4, Try.ntmps4
      go_wp2_with fail
      refine (awake10_any _).calls.mono ?_
      rintro e _ ⟨rfl, x1, rfl⟩
      go_wp2_with fail
      refine (S1 _ (by (repeat (first | (with_reducible exact SinceOf.refl _) | (with_reducible assumption) | (with_reducible refine SinceOf.alloc ?_ _) | (with_reducible refine SinceOf.drew ?_) | (with_reducible refine SinceOf.drewN ?_ _) | (with_reducible refine SinceOf.later ?_ _) | (with_reducible refine SinceOf.further ?_ _) | (with_reducible refine SinceOf.setCell ?_ (by first | exact Nat.le_refl _ | (simp; done) | omega | (simp; omega)) _))))).calls.mono ?_
      rintro e _ ⟨rfl, x2, rfl⟩
      go_wp2_with fail
      refine (S2 _ (by (repeat (first | (with_reducible exact SinceOf.refl _) | (with_reducible assumption) | (with_reducible refine SinceOf.alloc ?_ _) | (with_reducible refine SinceOf.drew ?_) | (with_reducible refine SinceOf.drewN ?_ _) | (with_reducible refine SinceOf.later ?_ _) | (with_reducible refine SinceOf.further ?_ _) | (with_reducible refine SinceOf.setCell ?_ (by first | exact Nat.le_refl _ | (simp; done) | omega | (simp; omega)) _))))).calls.mono ?_
      rintro e _ ⟨rfl, x3, rfl⟩
      go_wp2_with fail
      go_returns
      exact ⟨rfl, by (repeat (first | (with_reducible exact SinceOf.refl _) | (with_reducible assumption) | (with_reducible refine SinceOf.alloc ?_ _) | (with_reducible refine SinceOf.drew ?_) | (with_reducible refine SinceOf.drewN ?_ _) | (with_reducible refine SinceOf.later ?_ _) | (with_reducible refine SinceOf.further ?_ _) | (with_reducible refine SinceOf.setCell ?_ (by first | exact Nat.le_refl _ | (simp; done) | omega | (simp; omega)) _)))⟩
    · rw [h1] at S1
      rw [h2] at S2
      have g1 : decide (15 < (l.length : Int)) = true := decide_eq_true (by omega)
      clear h3
      go_enter Try.func4, Try.ntmps4
      go_wp2_with fail
      refine (awake10_any _).calls.mono ?_
      rintro e _ ⟨rfl, x1, rfl⟩
      go_wp2_with fail
      refine (S1 _ (by (repeat (first | (with_reducible exact SinceOf.refl _) | (with_reducible assumption) | (with_reducible refine SinceOf.alloc ?_ _) | (with_reducible refine SinceOf.drew ?_) | (with_reducible refine SinceOf.drewN ?_ _) | (with_reducible refine SinceOf.later ?_ _) | (with_reducible refine SinceOf.further ?_ _) | (with_reducible refine SinceOf.setCell ?_ (by first | exact Nat.le_refl _ | (simp; done) | omega | (simp; omega)) _))))).calls.mono ?_
      rintro e _ ⟨rfl, x2, rfl⟩
      go_wp2_with fail
      refine (S2 _ (by (repeat (first | (with_reducible exact SinceOf.refl _) | (with_reducible assumption) | (with_reducible refine SinceOf.alloc ?_ _) | (with_reducible refine SinceOf.drew ?_) | (with_reducible refine SinceOf.drewN ?_ _) | (with_reducible refine SinceOf.later ?_ _) | (with_reducible refine SinceOf.further ?_ _) | (with_reducible refine SinceOf.setCell ?_ (by first | exact Nat.le_refl _ | (simp; done) | omega | (simp; omega)) _))))).calls.mono ?_
      rintro e _ ⟨rfl, x3, rfl⟩
      go_wp2_with fail
      go_returns
      exact ⟨rfl, by (repeat (first | (with_reducible exact SinceOf.refl _) | (with_reducible assumption) | (with_reducible refine SinceOf.alloc ?_ _) | (with_reducible refine SinceOf.drew ?_) | (with_reducible refine SinceOf.drewN ?_ _) | (with_reducible refine SinceOf.later ?_ _) | (with_reducible refine SinceOf.further ?_ _) | (with_reducible refine SinceOf.setCell ?_ (by first | exact Nat.le_refl _ | (simp; done) | omega | (simp; omega)) _)))⟩
    · rw [h1] at S1
      rw [h2] at S2
      have g1 : decide (15 < (l.length : Int)) = false := decide_eq_false (by omega)
      have g2 : decide (15 < (m.length : Int)) = true := decide_eq_true (by omega)
      clear h3 h4
      go_enter Try.func4, Try.ntmps4
      go_wp2_with fail
      refine (awake10_any _).calls.mono ?_
      rintro e _ ⟨rfl, x1, rfl⟩
      go_wp2_with fail
      refine (S1 _ (by (repeat (first | (with_reducible exact SinceOf.refl _) | (with_reducible assumption) | (with_reducible refine SinceOf.alloc ?_ _) | (with_reducible refine SinceOf.drew ?_) | (with_reducible refine SinceOf.drewN ?_ _) | (with_reducible refine SinceOf.later ?_ _) | (with_reducible refine SinceOf.further ?_ _) | (with_reducible refine SinceOf.setCell ?_ (by first | exact Nat.le_refl _ | (simp; done) | omega | (simp; omega)) _))))).calls.mono ?_
      rintro e _ ⟨rfl, x2, rfl⟩
      go_wp2_with fail
      refine (S2 _ (by (repeat (first | (with_reducible exact SinceOf.refl _) | (with_reducible assumption) | (with_reducible refine SinceOf.alloc ?_ _) | (with_reducible refine SinceOf.drew ?_) | (with_reducible refine SinceOf.drewN ?_ _) | (with_reducible refine SinceOf.later ?_ _) | (with_reducible refine SinceOf.further ?_ _) | (with_reducible refine SinceOf.setCell ?_ (by first | exact Nat.le_refl _ | (simp; done) | omega | (simp; omega)) _))))).calls.mono ?_
      rintro e _ ⟨rfl, x3, rfl⟩
      go_wp2_with fail
      go_returns
      exact ⟨rfl, by (repeat (first | (with_reducible exact SinceOf.refl _) | (with_reducible assumption) | (with_reducible refine SinceOf.alloc ?_ _) | (with_reducible refine SinceOf.drew ?_) | (with_reducible refine SinceOf.drewN ?_ _) | (with_reducible refine SinceOf.later ?_ _) | (with_reducible refine SinceOf.further ?_ _) | (with_reducible refine SinceOf.setCell ?_ (by first | exact Nat.le_refl _ | (simp; done) | omega | (simp; omega)) _)))⟩
  obtain ⟨⟨hs1, hs2⟩, l15, m15⟩ := hs
  rw [hs1] at S1
  rw [hs2] at S2
  have HF := Lib.hid (And.intro hs1 hs2)
  clear hs1 hs2
  obtain ⟨i0, hi, hz0, hz1, hz2⟩ := info_parts infoVec
  have HI := Lib.hid (And.intro hi (And.intro hz0 (And.intro hz1 hz2)))
  clear hi hz0 hz1 hz2
  have g1 : decide (15 < (l.length : Int)) = false := decide_eq_false (by omega)
  have g2 : decide (15 < (m.length : Int)) = false := decide_eq_false (by omega)
  go_enter Try.func4, Try.ntmps4
  go_wp2_with fail
  refine (awake10_any _).calls.mono ?_
  rintro e _ ⟨rfl, x1, rfl⟩
  go_wp2_with fail
  refine (S1 _ (by (repeat (first | (with_reducible exact SinceOf.refl _) | (with_reducible assumption) | (with_reducible refine SinceOf.alloc ?_ _) | (with_reducible refine SinceOf.drew ?_) | (with_reducible refine SinceOf.drewN ?_ _) | (with_reducible refine SinceOf.later ?_ _) | (with_reducible refine SinceOf.further ?_ _) | (with_reducible refine SinceOf.setCell ?_ (by first | exact Nat.le_refl _ | (simp; done) | omega | (simp; omega)) _))))).calls.mono ?_
  rintro e _ ⟨rfl, x2, rfl⟩
  clear S1
  go_wp2_with fail
  refine (S2 _ (by (repeat (first | (with_reducible exact SinceOf.refl _) | (with_reducible assumption) | (with_reducible refine SinceOf.alloc ?_ _) | (with_reducible refine SinceOf.drew ?_) | (with_reducible refine SinceOf.drewN ?_ _) | (with_reducible refine SinceOf.later ?_ _) | (with_reducible refine SinceOf.further ?_ _) | (with_reducible refine SinceOf.setCell ?_ (by first | exact Nat.le_refl _ | (simp; done) | omega | (simp; omega)) _))))).calls.mono ?_
  rintro e _ ⟨rfl, x3, rfl⟩
  clear S2
  go_wp2_with fail
  clear g1 g2
  refine (hull_any A c l _ (H.out.1.of (by (repeat (first | (with_reducible exact SinceOf.refl _) | (with_reducible assumption) | (with_reducible refine SinceOf.alloc ?_ _) | (with_reducible refine SinceOf.drew ?_) | (with_reducible refine SinceOf.drewN ?_ _) | (with_reducible refine SinceOf.later ?_ _) | (with_reducible refine SinceOf.further ?_ _) | (with_reducible refine SinceOf.setCell ?_ (by first | exact Nat.le_refl _ | (simp; done) | omega | (simp; omega)) _))))) (by omega)).mono ?_
  rintro e _ ⟨A3, c3, r, er, rfl, hv3, hr3, ⟨x4, rfl⟩⟩
  have hs3 : SinceOf w x4.wd := by (repeat (first | (with_reducible exact SinceOf.refl _) | (with_reducible assumption) | (with_reducible refine SinceOf.alloc ?_ _) | (with_reducible refine SinceOf.drew ?_) | (with_reducible refine SinceOf.drewN ?_ _) | (with_reducible refine SinceOf.later ?_ _) | (with_reducible refine SinceOf.further ?_ _) | (with_reducible refine SinceOf.setCell ?_ (by first | exact Nat.le_refl _ | (simp; done) | omega | (simp; omega)) _)))
  obtain ⟨u, hu⟩ := hs3
  rw [hu] at hv3 ⊢
  clear hu x4 x3 x2 x1
  have K1 := hr3.small HF.out.1
  clear hr3
  by_cases e1 : er = 0
  case neg =>
    have g1 : (er != 0) = true := by simpa using e1
    clear K1 e1
    go_wp2_with fail
    go_returns
    exact ⟨rfl, by (repeat (first | (with_reducible exact SinceOf.refl _) | (with_reducible assumption) | (with_reducible refine SinceOf.alloc ?_ _) | (with_reducible refine SinceOf.drew ?_) | (with_reducible refine SinceOf.drewN ?_ _) | (with_reducible refine SinceOf.later ?_ _) | (with_reducible refine SinceOf.further ?_ _) | (with_reducible refine SinceOf.setCell ?_ (by first | exact Nat.le_refl _ | (simp; done) | omega | (simp; omega)) _)))⟩
  subst e1
  obtain ⟨hy, hrl⟩ : HullY l r ∧ r.length ≤ l.length := by
    rcases K1 with ⟨h, -⟩ | ⟨-, h⟩
    · omega
    · exact h
  have h3 := hy.hull.three
  have HY := Lib.hid hy
  clear K1 hy
  obtain ⟨g, off, rfl, hr⟩ := hv3.at_ (by omega)
  have HR := Lib.hid (And.intro hv3 hr)
  clear hv3 hr
  go_wp2_with fail
  go_loopg [9, 11] r.length (fun gas s9 s11 wr => ∃ (k : Nat) (A2 : Option Addr) (c2 n2 : Nat), k ≤ r.length ∧ r.length - k ≤ gas ∧ n2 = 2 * k ∧ s9 = .slice A2 n2 c2 ∧ s11 = .int .i64 k ∧ OwnVecs u.wd.heap.size wr A2 c2 (rotV r t k) ∧ SinceOf u.wd wr)
  case atStart => exact ⟨0, none, 0, 0, by omega, by omega, rfl, rfl, rfl, Owns.nil _ _ _ _ _, by (repeat (first | (with_reducible exact SinceOf.refl _) | (with_reducible assumption) | (with_reducible refine SinceOf.alloc ?_ _) | (with_reducible refine SinceOf.drew ?_) | (with_reducible refine SinceOf.drewN ?_ _) | (with_reducible refine SinceOf.later ?_ _) | (with_reducible refine SinceOf.further ?_ _) | (with_reducible refine SinceOf.setCell ?_ (by first | exact Nat.le_refl _ | (simp; done) | omega | (simp; omega)) _)))⟩
  case round =>
    obtain ⟨k, A2, c2, n2, hk, hgas, hn2, rfl, rfl, ho, ⟨z, rfl⟩⟩ := hrel
    by_cases hlt : k < r.length
    · have hq : (k + t) % r.length < r.length := Nat.mod_lt _ (by omega)
      have hr0 := HR.out.2.of (w' := z.wd) (by (repeat (first | (with_reducible exact SinceOf.refl _) | (with_reducible assumption) | (with_reducible refine SinceOf.alloc ?_ _) | (with_reducible refine SinceOf.drew ?_) | (with_reducible refine SinceOf.drewN ?_ _) | (with_reducible refine SinceOf.later ?_ _) | (with_reducible refine SinceOf.further ?_ _) | (with_reducible refine SinceOf.setCell ?_ (by first | exact Nat.le_refl _ | (simp; done) | omega | (simp; omega)) _))))
      have hO := hr0.there
      have p0 := hr0.v0 k hlt
      have p1 := hr0.v1 k hlt
      have q0 := hr0.v0 _ hq
      have q1 := hr0.v1 _ hq
      have hqt : Int.tmod ((k : Int) + (t : Int)) (r.length : Int) = (((k + t) % r.length : Nat) : Int) := by rw [Int.tmod_eq_emod_of_nonneg (by omega), Int.natCast_emod, Int.natCast_add]
      have hrot : rotV r t (k + 1) = rotV r t k ++ [r[(k + t) % r.length], r[k]] := by
        rw [rotV, at0_eq hq, at0_eq hlt]
      have hlr : (rotV r t k).length = n2 := by rw [rotV_len, hn2]
      have HP := Lib.hid (And.intro ho (And.intro hrot hlr))
      have HN := Lib.hid hn2
      have hn28 : n2 ≤ 28 := by omega
      clear ho hrot hlr hr0 hn2
      generalize r[(k + t) % r.length] = pb at *
      generalize r[k] = pa at *
      generalize (k + t) % r.length = q at *
      generalize rotV r t k = rv0 at *
      obtain ⟨px, py⟩ := pa
      obtain ⟨bx, by_⟩ := pb
      simp only at p0 p1 q0 q1
      have hzz := z.size
      have hrne : ¬ r = [] := fun e => by rw [e] at h3; simp at h3
      have w1 : IntKind.i64.wrap (t : Int) = (t : Int) := IntWalk.i64_in _ (by omega)
      have w2 : IntKind.i64.wrap ((k : Int) + (t : Int)) = (k : Int) + (t : Int) := IntWalk.i64_in _ (by omega)
      go_wp2_with fail
      go_region_law (refine step_append_row (by rfl) (.tmp 56) (.tmp 71) 22 (by rfl) encV_len (by omega) encV_one i0 _ 16 Try.underlying22 HI.out.1 HI.out.2.1 HI.out.2.2.1 HI.out.2.2.2 rfl (l := rv0) (A := A2) (c := c2) (base := u.wd.heap.size) (by rw [HP.out.2.2]; kernel_rfl) (HP.out.1.of (by (repeat (first | (with_reducible exact SinceOf.refl _) | (with_reducible assumption) | (with_reducible refine SinceOf.alloc ?_ _) | (with_reducible refine SinceOf.drew ?_) | (with_reducible refine SinceOf.drewN ?_ _) | (with_reducible refine SinceOf.later ?_ _) | (with_reducible refine SinceOf.further ?_ _) | (with_reducible refine SinceOf.setCell ?_ (by first | exact Nat.le_refl _ | (simp; done) | omega | (simp; omega)) _))))) (m := [(bx, by_), (px, py)]) (by kernel_rfl) (by first | exact IsRow.of (isRow_at2V z.wd _ bx by_ px py rfl) (by (repeat (first | (with_reducible exact SinceOf.refl _) | (with_reducible assumption) | (with_reducible refine SinceOf.alloc ?_ _) | (with_reducible refine SinceOf.drew ?_) | (with_reducible refine SinceOf.drewN ?_ _) | (with_reducible refine SinceOf.later ?_ _) | (with_reducible refine SinceOf.further ?_ _) | (with_reducible refine SinceOf.setCell ?_ (by first | exact Nat.le_refl _ | (simp; done) | omega | (simp; omega)) _)))) | exact isRow_at2V _ _ _ _ _ _ (by first | rfl | simp)) (by rw [HP.out.2.2]; unfold maxLen; simp; omega) (by rw [HP.out.2.2]; simp; omega) (by simp; omega) ?_; intro A3 c3' w4 ho3 hgr4 hb4)
      all_goals
        go_wp2_with fail
        go_roundg (r.length - (k + 1))
        case measure => omega
        case rel =>
          refine ⟨k + 1, A3, c3', n2 + 2, hlt, Nat.le_refl _, (by have := HN.out; omega), (by rw [HP.out.2.2]), by go_num, ?_, SinceOf.grown (by (repeat (first | (with_reducible exact SinceOf.refl _) | (with_reducible assumption) | (with_reducible refine SinceOf.alloc ?_ _) | (with_reducible refine SinceOf.drew ?_) | (with_reducible refine SinceOf.drewN ?_ _) | (with_reducible refine SinceOf.later ?_ _) | (with_reducible refine SinceOf.further ?_ _) | (with_reducible refine SinceOf.setCell ?_ (by first | exact Nat.le_refl _ | (simp; done) | omega | (simp; omega)) _)))) hgr4 (fun q hq => by have := (HP.out.1.below q hq).1; omega)⟩
          rw [HP.out.2.1]
          exact ho3
    · have hkl : k = r.length := by omega
      subst hkl
      have hrh := rot_hull (t := t) HY.out
      have hsm : smallB (rotV r t r.length) = true := small_of HF.out.1 (fun p hp => HY.out.hull.sub p (rotV_sub (by omega) (Nat.le_refl _) p hp)) (by rw [rotV_len]; omega)
      have hrl2 : (rotV r t r.length).length = n2 := by rw [rotV_len, hn2]
      have HP := Lib.hid (And.intro (ho.isRow encV_len) (And.intro hrh (And.intro hsm hrl2)))
      have hn30 : n2 ≤ 30 := by omega
      clear ho hrh hsm hrl2 hn2
      generalize rotV r t r.length = rot at *
      go_wp2_with fail
      go_loopg [10, 12] l.length (fun gas s10 s12 wr => ∃ (k : Nat) (kk : Int) (A4 : Option Addr) (c4 n4 : Nat), k ≤ l.length ∧ k ≤ gas ∧ kk = (k : Int) - 1 ∧ n4 = l.length - k ∧ s10 = .slice A4 n4 c4 ∧ s12 = .int .i64 kk ∧ OwnVecs z.wd.heap.size wr A4 c4 (l.drop k).reverse ∧ SinceOf z.wd wr)
      case atStart => exact ⟨l.length, (l.length : Int) - 1, none, 0, 0, by omega, by omega, rfl, by omega, rfl, by go_num, by rw [List.drop_length]; exact Owns.nil _ _ _ _ _, by (repeat (first | (with_reducible exact SinceOf.refl _) | (with_reducible assumption) | (with_reducible refine SinceOf.alloc ?_ _) | (with_reducible refine SinceOf.drew ?_) | (with_reducible refine SinceOf.drewN ?_ _) | (with_reducible refine SinceOf.later ?_ _) | (with_reducible refine SinceOf.further ?_ _) | (with_reducible refine SinceOf.setCell ?_ (by first | exact Nat.le_refl _ | (simp; done) | omega | (simp; omega)) _)))⟩
      case round =>
        obtain ⟨k, kk, A4, c4, n4, hk, hgas, hkk, hn4, rfl, rfl, ho, ⟨y, rfl⟩⟩ := hrel
        by_cases hlt : 0 < k
        · obtain ⟨j, rfl⟩ : ∃ j, k = j + 1 := ⟨k - 1, by omega⟩
          obtain rfl : kk = (j : Int) := by omega
          have hjl : j < l.length := by omega
          have hr0 := H.out.1.of (w' := y.wd) (by (repeat (first | (with_reducible exact SinceOf.refl _) | (with_reducible assumption) | (with_reducible refine SinceOf.alloc ?_ _) | (with_reducible refine SinceOf.drew ?_) | (with_reducible refine SinceOf.drewN ?_ _) | (with_reducible refine SinceOf.later ?_ _) | (with_reducible refine SinceOf.further ?_ _) | (with_reducible refine SinceOf.setCell ?_ (by first | exact Nat.le_refl _ | (simp; done) | omega | (simp; omega)) _))))
          obtain ⟨g2, off2, rfl, hr⟩ := hr0.at_ (by omega)
          have hO := hr.there
          have p0 := hr.v0 j hjl
          have p1 := hr.v1 j hjl
          have hdr : (l.drop j).reverse = (l.drop (j + 1)).reverse ++ [l[j]] := by
            rw [List.drop_eq_getElem_cons hjl, List.reverse_cons]
          have hlr : (l.drop (j + 1)).reverse.length = n4 := by rw [List.length_reverse, List.length_drop, hn4]
          have HQ := Lib.hid (And.intro ho (And.intro hdr hlr))
          clear ho hdr hlr hr hr0
          generalize l[j] = pa at *
          generalize (l.drop (j + 1)).reverse = rv0 at *
          obtain ⟨px, py⟩ := pa
          simp only at p0 p1
          have hzz := y.size
          have hn15 : n4 ≤ 15 := by omega
          have HN := Lib.hid hn4
          clear hkk hn4
          go_wp2_with (at_builtin; refine wpList_append_row (by rfl) (.tmp 80) (.tmp 85) 22 (by rfl) encV_len (by omega) encV_one i0 _ 16 Try.underlying22 HI.out.1 HI.out.2.1 HI.out.2.2.1 HI.out.2.2.2 rfl (l := rv0) (A := A4) (c := c4) (base := z.wd.heap.size) (by rw [HQ.out.2.2]; kernel_rfl) (HQ.out.1.of (by (repeat (first | (with_reducible exact SinceOf.refl _) | (with_reducible assumption) | (with_reducible refine SinceOf.alloc ?_ _) | (with_reducible refine SinceOf.drew ?_) | (with_reducible refine SinceOf.drewN ?_ _) | (with_reducible refine SinceOf.later ?_ _) | (with_reducible refine SinceOf.further ?_ _) | (with_reducible refine SinceOf.setCell ?_ (by first | exact Nat.le_refl _ | (simp; done) | omega | (simp; omega)) _))))) (m := [(px, py)]) (by kernel_rfl) (isRow_atV _ _ _ _ (by first | rfl | simp)) (by rw [HQ.out.2.2]; unfold maxLen; simp; omega) (by rw [HQ.out.2.2]; simp; omega) (by simp; omega) ?_; intro A3 c3' w4 ho3 hgr4 hb4)
          all_goals
            go_wp2_with fail
            go_roundg j
            case measure => omega
            case rel =>
              refine ⟨j, (j : Int) - 1, A3, c3', n4 + 1, by omega, Nat.le_refl _, rfl, (by have := HN.out; omega), (by rw [HQ.out.2.2]), by go_num, ?_, SinceOf.grown (by (repeat (first | (with_reducible exact SinceOf.refl _) | (with_reducible assumption) | (with_reducible refine SinceOf.alloc ?_ _) | (with_reducible refine SinceOf.drew ?_) | (with_reducible refine SinceOf.drewN ?_ _) | (with_reducible refine SinceOf.later ?_ _) | (with_reducible refine SinceOf.further ?_ _) | (with_reducible refine SinceOf.setCell ?_ (by first | exact Nat.le_refl _ | (simp; done) | omega | (simp; omega)) _)))) hgr4 (fun q hq => by have := (HQ.out.1.below q hq).1; omega)⟩
              rw [HQ.out.2.1]
              exact ho3
        · obtain rfl : k = 0 := by omega
          have hkk0 : kk < 0 := by omega
          have g1 : decide (0 ≤ kk) = false := decide_eq_false (by omega)
          rw [List.drop_zero] at ho
          obtain rfl : n4 = l.length := by omega
          have hrv := rev_hull HY.out
          have hrs : smallB l.reverse = true := small_of HF.out.1 (fun p hp => List.mem_reverse.1 hp) (by rw [List.length_reverse]; omega)
          have hll : l.reverse.length = l.length := List.length_reverse
          have HB := hull_any A4 c4 l.reverse
          have HA := hull_any A2 c2 rot
          rw [HP.out.2.2.2] at HA
          rw [hll] at HB
          have HQ := Lib.hid (And.intro (ho.isRow encV_len) (And.intro hrv hrs))
          clear ho hrv hrs hll hkk hn4
          go_wp2_with fail
          refine (HA _ (HP.out.1.of (by (repeat (first | (with_reducible exact SinceOf.refl _) | (with_reducible assumption) | (with_reducible refine SinceOf.alloc ?_ _) | (with_reducible refine SinceOf.drew ?_) | (with_reducible refine SinceOf.drewN ?_ _) | (with_reducible refine SinceOf.later ?_ _) | (with_reducible refine SinceOf.further ?_ _) | (with_reducible refine SinceOf.setCell ?_ (by first | exact Nat.le_refl _ | (simp; done) | omega | (simp; omega)) _))))) (by omega)).mono ?_
          rintro e _ ⟨A5, c5, r5, e5, rfl, hv5, hr5, ⟨y5, rfl⟩⟩
          go_wp2_with fail
          refine (HB _ (HQ.out.1.of (by (repeat (first | (with_reducible exact SinceOf.refl _) | (with_reducible assumption) | (with_reducible refine SinceOf.alloc ?_ _) | (with_reducible refine SinceOf.drew ?_) | (with_reducible refine SinceOf.drewN ?_ _) | (with_reducible refine SinceOf.later ?_ _) | (with_reducible refine SinceOf.further ?_ _) | (with_reducible refine SinceOf.setCell ?_ (by first | exact Nat.le_refl _ | (simp; done) | omega | (simp; omega)) _))))) (by omega)).mono ?_
          rintro e _ ⟨A6, c6, r6, e6, rfl, hv6, hr6, ⟨y6, rfl⟩⟩
          obtain ⟨rfl, rfl⟩ := hullY_err hr5 HP.out.2.2.1 HP.out.2.1
          obtain ⟨rfl, q6⟩ := hullY_err hr6 HQ.out.2.2 HQ.out.2.1
          have q6' := q6.symm
          subst q6'
          clear HA HB hr5 hr6 q6
          have hv3 : IsVecs y6.wd (some ⟨g, off, none⟩) c3 r5 := HR.out.1.of (by (repeat (first | (with_reducible exact SinceOf.refl _) | (with_reducible assumption) | (with_reducible refine SinceOf.alloc ?_ _) | (with_reducible refine SinceOf.drew ?_) | (with_reducible refine SinceOf.drewN ?_ _) | (with_reducible refine SinceOf.later ?_ _) | (with_reducible refine SinceOf.further ?_ _) | (with_reducible refine SinceOf.setCell ?_ (by first | exact Nat.le_refl _ | (simp; done) | omega | (simp; omega)) _))))
          have hv5' : IsVecs y6.wd A5 c5 r5 := hv5.of (by (repeat (first | (with_reducible exact SinceOf.refl _) | (with_reducible assumption) | (with_reducible refine SinceOf.alloc ?_ _) | (with_reducible refine SinceOf.drew ?_) | (with_reducible refine SinceOf.drewN ?_ _) | (with_reducible refine SinceOf.later ?_ _) | (with_reducible refine SinceOf.further ?_ _) | (with_reducible refine SinceOf.setCell ?_ (by first | exact Nat.le_refl _ | (simp; done) | omega | (simp; omega)) _))))
          have hs6 : SinceOf w y6.wd := by (repeat (first | (with_reducible exact SinceOf.refl _) | (with_reducible assumption) | (with_reducible refine SinceOf.alloc ?_ _) | (with_reducible refine SinceOf.drew ?_) | (with_reducible refine SinceOf.drewN ?_ _) | (with_reducible refine SinceOf.later ?_ _) | (with_reducible refine SinceOf.further ?_ _) | (with_reducible refine SinceOf.setCell ?_ (by first | exact Nat.le_refl _ | (simp; done) | omega | (simp; omega)) _)))
          obtain ⟨v, hv⟩ := hs6
          rw [hv] at hv3 hv5' hv6 ⊢
          have hok : decide (r5 = r5) = true := decide_eq_true rfl
          have SA := fun W (hW : SinceOf v.wd W) => refSame_any A5 (some ⟨g, off, none⟩) c5 c3 r5 r5 W (hv5'.of hW) (hv3.of hW) (by omega) (by omega)
          have SB := fun W (hW : SinceOf v.wd W) => refSame_any A6 (some ⟨g, off, none⟩) c6 c3 r5 r5 W (hv6.of hW) (hv3.of hW) (by omega) (by omega)
          rw [hok] at SA SB
          have HV := Lib.hid hv3
          clear hv hok hv3 hv5' hv5 hv6 HR HP HQ hgas hn30 g1
          go_wp2_with fail
          refine (SA _ (by (repeat (first | (with_reducible exact SinceOf.refl _) | (with_reducible assumption) | (with_reducible refine SinceOf.alloc ?_ _) | (with_reducible refine SinceOf.drew ?_) | (with_reducible refine SinceOf.drewN ?_ _) | (with_reducible refine SinceOf.later ?_ _) | (with_reducible refine SinceOf.further ?_ _) | (with_reducible refine SinceOf.setCell ?_ (by first | exact Nat.le_refl _ | (simp; done) | omega | (simp; omega)) _))))).calls.mono ?_
          rintro e _ ⟨rfl, x1, rfl⟩
          clear SA
          go_wp2_with fail
          refine (SB _ (by (repeat (first | (with_reducible exact SinceOf.refl _) | (with_reducible assumption) | (with_reducible refine SinceOf.alloc ?_ _) | (with_reducible refine SinceOf.drew ?_) | (with_reducible refine SinceOf.drewN ?_ _) | (with_reducible refine SinceOf.later ?_ _) | (with_reducible refine SinceOf.further ?_ _) | (with_reducible refine SinceOf.setCell ?_ (by first | exact Nat.le_refl _ | (simp; done) | omega | (simp; omega)) _))))).calls.mono ?_
          rintro e _ ⟨rfl, x2, rfl⟩
          clear SB
          go_wp2_with fail
          refine (hull_any B d m _ (H.out.2.of (by (repeat (first | (with_reducible exact SinceOf.refl _) | (with_reducible assumption) | (with_reducible refine SinceOf.alloc ?_ _) | (with_reducible refine SinceOf.drew ?_) | (with_reducible refine SinceOf.drewN ?_ _) | (with_reducible refine SinceOf.later ?_ _) | (with_reducible refine SinceOf.further ?_ _) | (with_reducible refine SinceOf.setCell ?_ (by first | exact Nat.le_refl _ | (simp; done) | omega | (simp; omega)) _))))) (by omega)).mono ?_
          rintro e _ ⟨A7, c7, s, es, rfl, hv7, hr7, ⟨x7, rfl⟩⟩
          have K2 := hr7.small HF.out.2
          clear hr7
          by_cases e2 : es = 0
          case neg =>
            have g1 : (es != 0) = true := by simpa using e2
            clear K2 e2
            go_wp2_with fail
            go_returns
            exact ⟨rfl, by (repeat (first | (with_reducible exact SinceOf.refl _) | (with_reducible assumption) | (with_reducible refine SinceOf.alloc ?_ _) | (with_reducible refine SinceOf.drew ?_) | (with_reducible refine SinceOf.drewN ?_ _) | (with_reducible refine SinceOf.later ?_ _) | (with_reducible refine SinceOf.further ?_ _) | (with_reducible refine SinceOf.setCell ?_ (by first | exact Nat.le_refl _ | (simp; done) | omega | (simp; omega)) _)))⟩
          subst e2
          obtain ⟨hy2, hsl⟩ : HullY m s ∧ s.length ≤ m.length := by
            rcases K2 with ⟨h, -⟩ | ⟨-, h⟩
            · omega
            · exact h
          have hv3 : IsVecs x7.wd (some ⟨g, off, none⟩) c3 r5 := HV.out.of (by (repeat (first | (with_reducible exact SinceOf.refl _) | (with_reducible assumption) | (with_reducible refine SinceOf.alloc ?_ _) | (with_reducible refine SinceOf.drew ?_) | (with_reducible refine SinceOf.drewN ?_ _) | (with_reducible refine SinceOf.later ?_ _) | (with_reducible refine SinceOf.further ?_ _) | (with_reducible refine SinceOf.setCell ?_ (by first | exact Nat.le_refl _ | (simp; done) | omega | (simp; omega)) _))))
          have hs7 : SinceOf w x7.wd := by (repeat (first | (with_reducible exact SinceOf.refl _) | (with_reducible assumption) | (with_reducible refine SinceOf.alloc ?_ _) | (with_reducible refine SinceOf.drew ?_) | (with_reducible refine SinceOf.drewN ?_ _) | (with_reducible refine SinceOf.later ?_ _) | (with_reducible refine SinceOf.further ?_ _) | (with_reducible refine SinceOf.setCell ?_ (by first | exact Nat.le_refl _ | (simp; done) | omega | (simp; omega)) _)))
          obtain ⟨u7, hu7⟩ := hs7
          rw [hu7] at hv3 hv7 ⊢
          have sm1 : smallB (l ++ m) = true := small_app HF.out.1 HF.out.2 (by omega)
          have sm2 : smallB (r5 ++ s) = true := small_app (small_of HF.out.1 HY.out.hull.sub (by omega)) (small_of HF.out.2 hy2.hull.sub (by omega)) (by omega)
          have HS := Lib.hid (And.intro hy2 (And.intro sm1 (And.intro sm2 (And.intro hv3 hv7))))
          clear hu7 K2 hy2 sm1 sm2 hv3 hv7 HV x7 x2 x1 v
          have hu7 := u7.size
          go_wp2_with (at_builtin; first
            | (refine wpList_append_row rfl (.tmp 123) (.tmp 124) 22 rfl encV_len (by omega) encV_one i0 _ 16 Try.underlying22 HI.out.1 HI.out.2.1 HI.out.2.2.1 HI.out.2.2.2 rfl (l := []) (A := some ⟨u7.wd.heap.size, 0, none⟩) (c := 0) (base := u7.wd.heap.size) rfl (World.ownsRow_lit u7.wd #[] 0 (Nat.le_refl _) (Nat.zero_le _) rfl) (m := l) rfl (H.out.1.of (by (repeat (first | (with_reducible exact SinceOf.refl _) | (with_reducible assumption) | (with_reducible refine SinceOf.alloc ?_ _) | (with_reducible refine SinceOf.drew ?_) | (with_reducible refine SinceOf.drewN ?_ _) | (with_reducible refine SinceOf.later ?_ _) | (with_reducible refine SinceOf.further ?_ _) | (with_reducible refine SinceOf.setCell ?_ (by first | exact Nat.le_refl _ | (simp; done) | omega | (simp; omega)) _))))) (by unfold maxLen; simp; omega) (by simp; omega) (by simp) ?_; intro A8 c8 w8 ho8 hgr8 hb8; simp only [List.length_nil, Nat.zero_add])
            | (refine wpList_append_row rfl (.tmp 125) (.tmp 126) 22 rfl encV_len (by omega) encV_one i0 _ 16 Try.underlying22 HI.out.1 HI.out.2.1 HI.out.2.2.1 HI.out.2.2.2 rfl (l := l) (A := A8) (c := c8) (base := u7.wd.heap.size) (by first | rfl | kernel_rfl) ho8 (m := m) rfl (H.out.2.of (SinceOf.grown (by (repeat (first | (with_reducible exact SinceOf.refl _) | (with_reducible assumption) | (with_reducible refine SinceOf.alloc ?_ _) | (with_reducible refine SinceOf.drew ?_) | (with_reducible refine SinceOf.drewN ?_ _) | (with_reducible refine SinceOf.later ?_ _) | (with_reducible refine SinceOf.further ?_ _) | (with_reducible refine SinceOf.setCell ?_ (by first | exact Nat.le_refl _ | (simp; done) | omega | (simp; omega)) _)))) hgr8 (by intro k hk; simp [blockOf] at hk; omega))) (by unfold maxLen; omega) (by omega) (by have := hgr8.size; simp at this; omega) ?_; intro A9 c9 w9 ho9 hgr9 hb9))
          have hs9 : SinceOf u7.wd w9 := SinceOf.grown (SinceOf.grown (by (repeat (first | (with_reducible exact SinceOf.refl _) | (with_reducible assumption) | (with_reducible refine SinceOf.alloc ?_ _) | (with_reducible refine SinceOf.drew ?_) | (with_reducible refine SinceOf.drewN ?_ _) | (with_reducible refine SinceOf.later ?_ _) | (with_reducible refine SinceOf.further ?_ _) | (with_reducible refine SinceOf.setCell ?_ (by first | exact Nat.le_refl _ | (simp; done) | omega | (simp; omega)) _)))) hgr8 (by intro k hk; simp [blockOf] at hk; omega)) hgr9 (fun b hb => (ho8.below b hb).1)
          obtain ⟨x9, rfl⟩ := hs9
          have HL := hull_any A9 c9 (l ++ m) x9.wd (ho9.isRow encV_len) (by rw [List.length_append]; omega)
          rw [List.length_append] at HL
          clear ho8 hgr8 hb8 ho9 hgr9 hb9
          refine HL.mono ?_
          rintro e _ ⟨A10, c10, h1, i1, rfl, hv10, hr10, ⟨y10, rfl⟩⟩
          clear HL
          have hs10 : SinceOf u7.wd y10.wd := by (repeat (first | (with_reducible exact SinceOf.refl _) | (with_reducible assumption) | (with_reducible refine SinceOf.alloc ?_ _) | (with_reducible refine SinceOf.drew ?_) | (with_reducible refine SinceOf.drewN ?_ _) | (with_reducible refine SinceOf.later ?_ _) | (with_reducible refine SinceOf.further ?_ _) | (with_reducible refine SinceOf.setCell ?_ (by first | exact Nat.le_refl _ | (simp; done) | omega | (simp; omega)) _)))
          obtain ⟨v, hv⟩ := hs10
          rw [hv] at hv10 ⊢
          clear hv y10 x9
          have hv7 := v.size
          have HT := Lib.hid (And.intro hr10 hv10)
          clear hr10 hv10
          go_wp2_with (at_builtin; first
            | (refine wpList_append_row2 rfl (.tmp 132) (.tmp 133) 22 25 rfl encV_len (by omega) encV_one i0 _ 16 Try.underlying22 Try.underlying25 HI.out.1 HI.out.2.1 HI.out.2.2.1 HI.out.2.2.2 rfl (l := []) (A := some ⟨v.wd.heap.size, 0, none⟩) (c := 0) (base := v.wd.heap.size) rfl (World.ownsRow_lit v.wd #[] 0 (Nat.le_refl _) (Nat.zero_le _) rfl) (m := r5) rfl (HS.out.2.2.2.1.of (by (repeat (first | (with_reducible exact SinceOf.refl _) | (with_reducible assumption) | (with_reducible refine SinceOf.alloc ?_ _) | (with_reducible refine SinceOf.drew ?_) | (with_reducible refine SinceOf.drewN ?_ _) | (with_reducible refine SinceOf.later ?_ _) | (with_reducible refine SinceOf.further ?_ _) | (with_reducible refine SinceOf.setCell ?_ (by first | exact Nat.le_refl _ | (simp; done) | omega | (simp; omega)) _))))) (by unfold maxLen; simp; omega) (by simp; omega) (by simp) ?_; intro A8 c8 w8 ho8 hgr8 hb8; simp only [List.length_nil, Nat.zero_add])
            | (refine wpList_append_row2 rfl (.tmp 134) (.tmp 135) 22 25 rfl encV_len (by omega) encV_one i0 _ 16 Try.underlying22 Try.underlying25 HI.out.1 HI.out.2.1 HI.out.2.2.1 HI.out.2.2.2 rfl (l := r5) (A := A8) (c := c8) (base := v.wd.heap.size) (by first | rfl | kernel_rfl) ho8 (m := s) rfl (HS.out.2.2.2.2.of (SinceOf.grown (by (repeat (first | (with_reducible exact SinceOf.refl _) | (with_reducible assumption) | (with_reducible refine SinceOf.alloc ?_ _) | (with_reducible refine SinceOf.drew ?_) | (with_reducible refine SinceOf.drewN ?_ _) | (with_reducible refine SinceOf.later ?_ _) | (with_reducible refine SinceOf.further ?_ _) | (with_reducible refine SinceOf.setCell ?_ (by first | exact Nat.le_refl _ | (simp; done) | omega | (simp; omega)) _)))) hgr8 (by intro k hk; simp [blockOf] at hk; omega))) (by unfold maxLen; omega) (by omega) (by have := hgr8.size; simp at this; omega) ?_; intro A9 c9 w9 ho9 hgr9 hb9))
          have hs9 : SinceOf v.wd w9 := SinceOf.grown (SinceOf.grown (by (repeat (first | (with_reducible exact SinceOf.refl _) | (with_reducible assumption) | (with_reducible refine SinceOf.alloc ?_ _) | (with_reducible refine SinceOf.drew ?_) | (with_reducible refine SinceOf.drewN ?_ _) | (with_reducible refine SinceOf.later ?_ _) | (with_reducible refine SinceOf.further ?_ _) | (with_reducible refine SinceOf.setCell ?_ (by first | exact Nat.le_refl _ | (simp; done) | omega | (simp; omega)) _)))) hgr8 (by intro k hk; simp [blockOf] at hk; omega)) hgr9 (fun b hb => (ho8.below b hb).1)
          obtain ⟨x9, rfl⟩ := hs9
          have HL := hull_any A9 c9 (r5 ++ s) x9.wd (ho9.isRow encV_len) (by rw [List.length_append]; omega)
          rw [List.length_append] at HL
          clear ho8 hgr8 hb8 ho9 hgr9 hb9
          refine HL.mono ?_
          rintro e _ ⟨A11, c11, h2, i2, rfl, hv11, hr11, ⟨y11, rfl⟩⟩
          clear HL
          obtain ⟨rfl, rfl, rfl⟩ := hull_both HY.out HS.out.1 HS.out.2.1 HS.out.2.2.1 HT.out.1 hr11
          have hok : decide (h1 = h1) = true := decide_eq_true rfl
          have hl1 : h1.length < 4611686018427387904 := by
            rcases HT.out.1.small HS.out.2.1 with ⟨e, -⟩ | ⟨-, -, q⟩
            · omega
            · rw [List.length_append] at q; omega
          have SC := fun W (hW : SinceOf y11.wd W) => refSame_any A10 A11 c10 c11 h1 h1 W ((HT.out.2.of (w' := y11.wd) (by (repeat (first | (with_reducible exact SinceOf.refl _) | (with_reducible assumption) | (with_reducible refine SinceOf.alloc ?_ _) | (with_reducible refine SinceOf.drew ?_) | (with_reducible refine SinceOf.drewN ?_ _) | (with_reducible refine SinceOf.later ?_ _) | (with_reducible refine SinceOf.further ?_ _) | (with_reducible refine SinceOf.setCell ?_ (by first | exact Nat.le_refl _ | (simp; done) | omega | (simp; omega)) _))))).of hW) (hv11.of hW) hl1 hl1
          rw [hok] at SC
          clear hr11 hok
          go_wp2_with fail
          refine (SC _ (by (repeat (first | (with_reducible exact SinceOf.refl _) | (with_reducible assumption) | (with_reducible refine SinceOf.alloc ?_ _) | (with_reducible refine SinceOf.drew ?_) | (with_reducible refine SinceOf.drewN ?_ _) | (with_reducible refine SinceOf.later ?_ _) | (with_reducible refine SinceOf.further ?_ _) | (with_reducible refine SinceOf.setCell ?_ (by first | exact Nat.le_refl _ | (simp; done) | omega | (simp; omega)) _))))).calls.mono ?_
          rintro e _ ⟨rfl, x1, rfl⟩
          go_wp2_with fail
          go_returns
          exact ⟨rfl, by (repeat (first | (with_reducible exact SinceOf.refl _) | (with_reducible assumption) | (with_reducible refine SinceOf.alloc ?_ _) | (with_reducible refine SinceOf.drew ?_) | (with_reducible refine SinceOf.drewN ?_ _) | (with_reducible refine SinceOf.later ?_ _) | (with_reducible refine SinceOf.further ?_ _) | (with_reducible refine SinceOf.setCell ?_ (by first | exact Nat.le_refl _ | (simp; done) | omega | (simp; omega)) _)))⟩
theorem hullAgain_u8 (A B : Option Addr) (c d : Nat) (l m : List (Int × Int)) (x : Int) (w : World) (h : IsVecs w A c l) (k : IsVecs w B d m) (hlen : l.length < 4611686018427387904) (hlen2 : m.length < 4611686018427387904) (hx : 0 ≤ x ∧ x ≤ 255) :
    Yields Try.prog 4 #[.slice A l.length c, .slice B m.length d, .int .u8 x] w (.bool true) := by
  obtain ⟨t, rfl⟩ : ∃ t : Nat, x = (t : Int) := ⟨x.toNat, by omega⟩
  exact hullAgain_any A B c d l m t w h k hlen hlen2 (by omega)
end Go.Proofs.Yticmfmcflikneaa
