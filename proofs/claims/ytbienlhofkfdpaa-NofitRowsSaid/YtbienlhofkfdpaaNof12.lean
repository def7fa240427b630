/- Layer 16: NofitRows. -/
import Derived.Test.YtbienlhofkfdpaaNof11
import Derived.Deep.RegionHeld3
namespace Go.Proofs.Ytbienlhofkfdpaa
open Go.RowKit Go.Sort
set_option linter.unusedVariables false
set_option linter.unusedSimpArgs false
attribute [local go_sem ↓] Go.wp_at_zero Go.wp_at_succ

theorem equalIn_pair (w : World) (a b c d : Int) : (Op.equalIn 10000 58 (vv a b) (vv c d)).run Try.prog w = .ok (eqv a b c d) w := by
  have c3 : Try.prog.cellsOf 3 = 1 := by kernel_rfl
  obtain ⟨i, hi⟩ : ∃ i, Try.prog.info? 3 = some i := Option.isSome_iff_exists.1 (by kernel_rfl)
  rw [show (10000 : Nat) = 9999 + 1 from rfl, run_equalIn_array w 9999 _ _ Try.underlying58 hi, c3]
  have a3 := Try.isAgg3
  have z3 := Try.sizeOf3
  have u3 := Try.underlying3
  simp only [List.range, List.range.loop, Op.eqItems]
  go_simp
  by_cases h1 : a = c <;> by_cases h2 : b = d <;> simp [h1, h2, eqv]
@[go_sem ↓] theorem eql_pair (w : World) (a b c d : Int) : (binOp .eql 58 (vv a b) (vv c d)).run Try.prog w = .ok (.bool (eqv a b c d)) w := by
  rw [run_eql_struct, equalIn_pair]; rfl
@[go_sem ↓] theorem neq_pair (w : World) (a b c d : Int) : (binOp .neq 58 (vv a b) (vv c d)).run Try.prog w = .ok (.bool (!eqv a b c d)) w := by
  rw [run_neq_struct, equalIn_pair]; rfl
set_option maxRecDepth 100000 in
set_option maxHeartbeats 16000000 in
theorem nofitRows_any (A : Option Addr) (c : Nat) (X : List RgR) (lx ly hx hy : Int) (w : World) (h : IsRings w A c X) : Yields Try.prog 8 #[.slice A X.length c, .agg #[.int .i64 lx, .int .i64 ly, .int .i64 hx, .int .i64 hy]] w (.bool true) := by
  apply Yields.ret
  have SM := small16_any lx ly hx hy
  have H := Lib.hid h
  clear h
  cases hsm : smallB lx ly hx hy
  case false =>
    rw [hsm] at SM
    go_enter Try.func8, Try.ntmps8
    go_wp2_with fail
    refine (awake16_any _).mono ?_
    rintro e _ ⟨rfl, x1, rfl⟩
    go_wp2_with fail
    refine (refFew16_any A c X _ (H.out.of (by (repeat (first | (with_reducible exact SinceOf.refl _) | (with_reducible assumption) | (with_reducible refine SinceOf.alloc ?_ _) | (with_reducible refine SinceOf.drew ?_) | (with_reducible refine SinceOf.drewN ?_ _) | (with_reducible refine SinceOf.later ?_ _) | (with_reducible refine SinceOf.further ?_ _) | (with_reducible refine SinceOf.setCell ?_ (by first | exact Nat.le_refl _ | (simp; done) | omega | (simp; omega)) _)))))).mono ?_
    rintro e _ ⟨b, rfl, hb, ⟨x2, rfl⟩⟩
    cases b
    · clear hb
      go_wp2_with fail
      go_returns
      exact ⟨rfl, by (repeat (first | (with_reducible exact SinceOf.refl _) | (with_reducible assumption) | (with_reducible refine SinceOf.alloc ?_ _) | (with_reducible refine SinceOf.drew ?_) | (with_reducible refine SinceOf.drewN ?_ _) | (with_reducible refine SinceOf.later ?_ _) | (with_reducible refine SinceOf.further ?_ _) | (with_reducible refine SinceOf.setCell ?_ (by first | exact Nat.le_refl _ | (simp; done) | omega | (simp; omega)) _)))⟩
    · clear hb
      go_wp2_with fail
      refine (SM _).calls.mono ?_
      rintro e _ ⟨rfl, x3, rfl⟩
      go_wp2_with fail
      go_returns
      exact ⟨rfl, by (repeat (first | (with_reducible exact SinceOf.refl _) | (with_reducible assumption) | (with_reducible refine SinceOf.alloc ?_ _) | (with_reducible refine SinceOf.drew ?_) | (with_reducible refine SinceOf.drewN ?_ _) | (with_reducible refine SinceOf.later ?_ _) | (with_reducible refine SinceOf.further ?_ _) | (with_reducible refine SinceOf.setCell ?_ (by first | exact Nat.le_refl _ | (simp; done) | omega | (simp; omega)) _)))⟩
  rw [hsm] at SM
  clear hsm
  go_enter Try.func8, Try.ntmps8
  go_wp2_with fail
  refine (awake16_any _).mono ?_
  rintro e _ ⟨rfl, x1, rfl⟩
  go_wp2_with fail
  refine (refFew16_any A c X _ (H.out.of (by (repeat (first | (with_reducible exact SinceOf.refl _) | (with_reducible assumption) | (with_reducible refine SinceOf.alloc ?_ _) | (with_reducible refine SinceOf.drew ?_) | (with_reducible refine SinceOf.drewN ?_ _) | (with_reducible refine SinceOf.later ?_ _) | (with_reducible refine SinceOf.further ?_ _) | (with_reducible refine SinceOf.setCell ?_ (by first | exact Nat.le_refl _ | (simp; done) | omega | (simp; omega)) _)))))).mono ?_
  rintro e _ ⟨b, rfl, hb, ⟨x2, rfl⟩⟩
  cases b
  · clear hb
    go_wp2_with fail
    go_returns
    exact ⟨rfl, by (repeat (first | (with_reducible exact SinceOf.refl _) | (with_reducible assumption) | (with_reducible refine SinceOf.alloc ?_ _) | (with_reducible refine SinceOf.drew ?_) | (with_reducible refine SinceOf.drewN ?_ _) | (with_reducible refine SinceOf.later ?_ _) | (with_reducible refine SinceOf.further ?_ _) | (with_reducible refine SinceOf.setCell ?_ (by first | exact Nat.le_refl _ | (simp; done) | omega | (simp; omega)) _)))⟩
  have hf := hb rfl
  have hs : ∀ x ∈ X, x.xs.length ≤ 100000 := fun x hx => by have := (hf.1 x hx).1; omega
  have hX : X.length ≤ 10000 := by have := hf.2; omega
  have HS := Lib.hid (And.intro hs hX)
  clear hb hf hs hX
  go_wp2_with fail
  refine (SM _).calls.mono ?_
  rintro e _ ⟨rfl, x3, rfl⟩
  clear SM
  go_upto_region 6 with fail
  go_cut [6, 7] (fun s6 s7 wx => ∃ (A1 A2 : Option Addr) (c1 c2 : Nat) (out : List (Int × Int)), s6 = .slice A1 out.length c1 ∧ s7 = .slice A2 out.length c2 ∧ IsVecs wx A1 c1 out ∧ IsVecs wx A2 c2 out ∧ RowV (vxs X) ly lx hx out ∧ SinceOf x3.wd wx)
  case first =>
    go_region_held3 (fun w' => w'.cell? ⟨w.heap.size, 0, none⟩ = some (.int .i64 lx) ∧ w'.cell? ⟨w.heap.size, 1, none⟩ = some (.int .i64 ly) ∧ w'.cell? ⟨w.heap.size, 2, none⟩ = some (.int .i64 hx) ∧ w'.cell? ⟨w.heap.size, 3, none⟩ = some (.int .i64 hy)) ((simp [go_sem, *]))
      (first | (go_at_call 34; refine (nofRow_any A c X ly lx hx _ (H.out.of (by (repeat (first | (with_reducible exact SinceOf.refl _) | (with_reducible assumption) | (with_reducible refine SinceOf.alloc ?_ _) | (with_reducible refine SinceOf.drew ?_) | (with_reducible refine SinceOf.drewN ?_ _) | (with_reducible refine SinceOf.later ?_ _) | (with_reducible refine SinceOf.further ?_ _) | (with_reducible refine SinceOf.setCell ?_ (by first | exact Nat.le_refl _ | (simp; done) | omega | (simp; omega)) _))))) HS.out.1 HS.out.2).mono ?_; rintro e _ ⟨A1, c1, o1, rfl, hr1, ho1, ⟨z1, rfl⟩⟩) | (go_at_call 35; refine (refNofRow_any A c X ly lx hx _ (H.out.of (by (repeat (first | (with_reducible exact SinceOf.refl _) | (with_reducible assumption) | (with_reducible refine SinceOf.alloc ?_ _) | (with_reducible refine SinceOf.drew ?_) | (with_reducible refine SinceOf.drewN ?_ _) | (with_reducible refine SinceOf.later ?_ _) | (with_reducible refine SinceOf.further ?_ _) | (with_reducible refine SinceOf.setCell ?_ (by first | exact Nat.le_refl _ | (simp; done) | omega | (simp; omega)) _))))) HS.out.1).mono ?_; rintro e _ ⟨A2, c2, o2, rfl, hr2, ho2, ⟨z2, rfl⟩⟩))
    all_goals (obtain rfl := hr1.unique hr2; go_wp2_with fail; go_meet; exact ⟨A1, A2, c1, c2, o1, rfl, rfl, (ho1.isRow encV_len).of (by (repeat (first | (with_reducible exact SinceOf.refl _) | (with_reducible assumption) | (with_reducible refine SinceOf.alloc ?_ _) | (with_reducible refine SinceOf.drew ?_) | (with_reducible refine SinceOf.drewN ?_ _) | (with_reducible refine SinceOf.later ?_ _) | (with_reducible refine SinceOf.further ?_ _) | (with_reducible refine SinceOf.setCell ?_ (by first | exact Nat.le_refl _ | (simp; done) | omega | (simp; omega)) _)))), (ho2.isRow encV_len).of (by (repeat (first | (with_reducible exact SinceOf.refl _) | (with_reducible assumption) | (with_reducible refine SinceOf.alloc ?_ _) | (with_reducible refine SinceOf.drew ?_) | (with_reducible refine SinceOf.drewN ?_ _) | (with_reducible refine SinceOf.later ?_ _) | (with_reducible refine SinceOf.further ?_ _) | (with_reducible refine SinceOf.setCell ?_ (by first | exact Nat.le_refl _ | (simp; done) | omega | (simp; omega)) _)))), hr1, by (repeat (first | (with_reducible exact SinceOf.refl _) | (with_reducible assumption) | (with_reducible refine SinceOf.alloc ?_ _) | (with_reducible refine SinceOf.drew ?_) | (with_reducible refine SinceOf.drewN ?_ _) | (with_reducible refine SinceOf.later ?_ _) | (with_reducible refine SinceOf.further ?_ _) | (with_reducible refine SinceOf.setCell ?_ (by first | exact Nat.le_refl _ | (simp; done) | omega | (simp; omega)) _)))⟩)
  case rest =>
    obtain ⟨A1, A2, c1, c2, out, rfl, rfl, hv1, hv2, hrow, ⟨z, rfl⟩⟩ := hcut
    have hout : out.length ≤ 100000 := by
      have h1 := len_le_tot (l := out) (fun f hf => (hrow.bnd f hf).1)
      have h2 := hrow.tot
      omega
    have HV := Lib.hid (And.intro hv1 (And.intro hv2 hrow))
    clear hv1 hv2 hrow
    go_wp2_with fail
    go_loopg [8] out.length (fun gas s8 wr => ∃ i : Nat, s8 = .int .i64 i ∧ i ≤ out.length ∧ out.length - i ≤ gas ∧ ∃ z2 : Since z.wd, wr = z2.wd)
    case atStart => exact ⟨0, rfl, Nat.zero_le _, by omega, ⟨⟨_, Below.refl _ _⟩, rfl⟩⟩
    case round =>
      obtain ⟨i, rfl, hi, hg, ⟨z2, rfl⟩⟩ := hrel
      by_cases hlt : i < out.length
      · obtain ⟨g1, f1, rfl, r1⟩ := (HV.out.1.of (w' := z2.wd) (by (repeat (first | (with_reducible exact SinceOf.refl _) | (with_reducible assumption) | (with_reducible refine SinceOf.alloc ?_ _) | (with_reducible refine SinceOf.drew ?_) | (with_reducible refine SinceOf.drewN ?_ _) | (with_reducible refine SinceOf.later ?_ _) | (with_reducible refine SinceOf.further ?_ _) | (with_reducible refine SinceOf.setCell ?_ (by first | exact Nat.le_refl _ | (simp; done) | omega | (simp; omega)) _))))).at_ (by omega)
        obtain ⟨g2, f2, rfl, r2⟩ := (HV.out.2.1.of (w' := z2.wd) (by (repeat (first | (with_reducible exact SinceOf.refl _) | (with_reducible assumption) | (with_reducible refine SinceOf.alloc ?_ _) | (with_reducible refine SinceOf.drew ?_) | (with_reducible refine SinceOf.drewN ?_ _) | (with_reducible refine SinceOf.later ?_ _) | (with_reducible refine SinceOf.further ?_ _) | (with_reducible refine SinceOf.setCell ?_ (by first | exact Nat.le_refl _ | (simp; done) | omega | (simp; omega)) _))))).at_ (by omega)
        have o1 := r1.there
        have o2 := r2.there
        have a0 := r1.v0 i hlt
        have a1 := r1.v1 i hlt
        have e0 := r2.v0 i hlt
        have e1 := r2.v1 i hlt
        generalize out[i] = q at a0 a1 e0 e1
        obtain ⟨qx, qy⟩ := q
        simp only at a0 a1 e0 e1
        clear r1 r2
        go_wp2_with fail
        go_region
        go_wp2_with fail
        go_roundg (out.length - (i + 1))
        case measure => omega
        case rel => exact ⟨i + 1, by go_num, hlt, Nat.le_refl _, ⟨⟨_, z2.below.drew⟩, rfl⟩⟩
      · have hil : i = out.length := by omega
        subst hil
        clear hi hg hlt
        go_wp2_with fail
        refine (first_any A c X lx ly hx hy _ (H.out.of (by (repeat (first | (with_reducible exact SinceOf.refl _) | (with_reducible assumption) | (with_reducible refine SinceOf.alloc ?_ _) | (with_reducible refine SinceOf.drew ?_) | (with_reducible refine SinceOf.drewN ?_ _) | (with_reducible refine SinceOf.later ?_ _) | (with_reducible refine SinceOf.further ?_ _) | (with_reducible refine SinceOf.setCell ?_ (by first | exact Nat.le_refl _ | (simp; done) | omega | (simp; omega)) _))))) HS.out.1 HS.out.2).mono ?_
        rintro e _ ⟨x, y, b, rfl, hf1, ⟨y1, rfl⟩⟩
        go_wp2_with fail
        refine (refFirst_any A c X lx ly hx hy _ (H.out.of (by (repeat (first | (with_reducible exact SinceOf.refl _) | (with_reducible assumption) | (with_reducible refine SinceOf.alloc ?_ _) | (with_reducible refine SinceOf.drew ?_) | (with_reducible refine SinceOf.drewN ?_ _) | (with_reducible refine SinceOf.later ?_ _) | (with_reducible refine SinceOf.further ?_ _) | (with_reducible refine SinceOf.setCell ?_ (by first | exact Nat.le_refl _ | (simp; done) | omega | (simp; omega)) _))))) HS.out.1).mono ?_
        rintro e _ ⟨x', y', b', rfl, hf2, ⟨y2, rfl⟩⟩
        obtain ⟨hxy, rfl⟩ := Prod.mk.inj (hf1.unique hf2)
        obtain ⟨rfl, rfl⟩ := Prod.mk.inj hxy
        clear hf1 hf2 hxy
        have qe : eqv x y x y = true := by simp [eqv]
        go_wp2_with fail
        go_region_held3 (fun w' => (w'.cell? ⟨w.heap.size, 0, none⟩ = some (.int .i64 lx) ∧ w'.cell? ⟨w.heap.size, 1, none⟩ = some (.int .i64 ly) ∧ w'.cell? ⟨w.heap.size, 2, none⟩ = some (.int .i64 hx) ∧ w'.cell? ⟨w.heap.size, 3, none⟩ = some (.int .i64 hy)) ∧ w'.cell? ⟨y1.wd.heap.size, 0, none⟩ = some (.int .i64 x) ∧ w'.cell? ⟨y1.wd.heap.size, 1, none⟩ = some (.int .i64 y) ∧ w'.cell? ⟨y2.wd.heap.size, 0, none⟩ = some (.int .i64 x) ∧ w'.cell? ⟨y2.wd.heap.size, 1, none⟩ = some (.int .i64 y)) ((simp [go_sem, *]))
          (first | (go_at_call 38; refine (count_any A c X lx ly hx hy _ (H.out.of (by (repeat (first | (with_reducible exact SinceOf.refl _) | (with_reducible assumption) | (with_reducible refine SinceOf.alloc ?_ _) | (with_reducible refine SinceOf.drew ?_) | (with_reducible refine SinceOf.drewN ?_ _) | (with_reducible refine SinceOf.later ?_ _) | (with_reducible refine SinceOf.further ?_ _) | (with_reducible refine SinceOf.setCell ?_ (by first | exact Nat.le_refl _ | (simp; done) | omega | (simp; omega)) _))))) HS.out.1 HS.out.2).mono ?_; rintro e _ ⟨n1, rfl, hr1, ⟨z3, rfl⟩⟩) | (go_at_call 39; refine (refCount_any A c X lx ly hx hy _ (H.out.of (by (repeat (first | (with_reducible exact SinceOf.refl _) | (with_reducible assumption) | (with_reducible refine SinceOf.alloc ?_ _) | (with_reducible refine SinceOf.drew ?_) | (with_reducible refine SinceOf.drewN ?_ _) | (with_reducible refine SinceOf.later ?_ _) | (with_reducible refine SinceOf.further ?_ _) | (with_reducible refine SinceOf.setCell ?_ (by first | exact Nat.le_refl _ | (simp; done) | omega | (simp; omega)) _))))) HS.out.1).mono ?_; rintro e _ ⟨n2, rfl, hr2, ⟨z4, rfl⟩⟩))
        all_goals (obtain rfl := hr1.unique hr2; go_wp2_with fail; go_returns; exact ⟨by simp, by (repeat (first | (with_reducible exact SinceOf.refl _) | (with_reducible assumption) | (with_reducible refine SinceOf.alloc ?_ _) | (with_reducible refine SinceOf.drew ?_) | (with_reducible refine SinceOf.drewN ?_ _) | (with_reducible refine SinceOf.later ?_ _) | (with_reducible refine SinceOf.further ?_ _) | (with_reducible refine SinceOf.setCell ?_ (by first | exact Nat.le_refl _ | (simp; done) | omega | (simp; omega)) _)))⟩)
end Go.Proofs.Ytbienlhofkfdpaa
