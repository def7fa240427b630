/- Layer 16: the example of the document, its plain part. -/
import Derived.Test.YtpbgimdbhgahkaaGreatNof9
import Derived.Deep.RegionHeld3
namespace Go.Proofs.YtpbgimdbhgahkaaGreat
open Go.RowKit Go.Sort
set_option linter.unusedVariables false
set_option linter.unusedSimpArgs false

def unitR : List Pt := [(0, 0), (1, 0), (1, 1), (0, 1)]
def negU : List Pt := [(-1, -1), (0, -1), (0, 0), (-1, 0)]
def sqR : List Pt := [(-1, -1), (1, -1), (1, 1), (-1, 1)]
theorem hullY_dec {pts r : List Pt} (h3 : 3 ≤ r.length) (hc : ∀ i < r.length, ∀ k < r.length, k ≠ i → k ≠ (i + 1) % r.length → 0 < det (at0 r i) (rv r (i + 1)) (at0 r k))
    (hl : ∀ i < r.length, ∀ q ∈ pts, 0 ≤ det (at0 r i) (rv r (i + 1)) q) (hs : ∀ q ∈ r, q ∈ pts) (hf : ∀ q ∈ pts, at0 r 0 = q ∨ ((at0 r 0).2 < q.2 ∨ ((at0 r 0).2 = q.2 ∧ (at0 r 0).1 < q.1))) : HullY pts r :=
  ⟨⟨h3, fun i k hi hk => hc i hi k hk, fun i hi => hl i hi, hs⟩, fun q hq => (hf q hq).imp id (fun h => by unfold lexy; omega)⟩
theorem negU_is : NegV unitR (negU, 0) := by
  unfold NegV
  rw [if_pos (by decide +kernel)]
  exact ⟨hullY_dec (by decide +kernel) (by decide +kernel) (by decide +kernel) (by decide +kernel) (by decide +kernel), by decide +kernel, rfl⟩
theorem sqR_is : SumV unitR negU (sqR, 0) := by
  unfold SumV
  rw [if_pos ⟨by decide +kernel, by decide +kernel⟩]
  exact ⟨sqR, hullY_dec (by decide +kernel) (by decide +kernel) (by decide +kernel) (by decide +kernel) (by decide +kernel), by decide +kernel⟩
theorem awOf : OfV [unitR] [unitR] ([sqR], 0) := by
  unfold OfV
  rw [if_neg (by decide)]
  refine ⟨([negU], 0), ⟨(negU, 0), negU_is, ?_⟩, ?_⟩
  · rw [if_pos rfl]; rfl
  · rw [if_pos rfl]
    refine ⟨(sqR, 0), sqR_is, ?_⟩
    rw [if_pos rfl]; rfl
theorem rowV_free {S : List (List Pt)} {y lo hi : Int} (m : List (Int × Int)) (h1 : -8000 ≤ y) (h2 : y ≤ 8000) (hp : m = forbF S y) (hs : m.Pairwise (fun a b => a.1 ≤ b.1)) (out : List (Int × Int)) (ho : freeS m (max lo (-8000)) (min hi 8000) = out) : RowV S y lo hi out := by
  subst ho
  exact RowV.free h1 h2 (by rw [hp]) hs
theorem awFirst : FirstV [sqR] 0 3 (boxYs 0 3) ((1, 0), true) := by
  rw [show boxYs 0 3 = [0, 1, 2, 3] from by decide +kernel]
  exact ⟨[(1, 3)], rowV_free [(0, 0)] (by decide) (by decide) (by decide +kernel) (by decide) _ (by decide +kernel), rfl⟩
theorem awCount : CountV [sqR] (-1) 1 (boxYs (-1) 1) 8 := by
  rw [show boxYs (-1) 1 = [-1, 0, 1] from by decide +kernel]
  refine ⟨[(-1, 1)], 5, rowV_free [] (by decide) (by decide) (by decide +kernel) (by decide) _ (by decide +kernel), ?_, by decide⟩
  refine ⟨[(-1, -1), (1, 1)], 3, rowV_free [(0, 0)] (by decide) (by decide) (by decide +kernel) (by decide) _ (by decide +kernel), ?_, by decide⟩
  exact ⟨[(-1, 1)], 0, rowV_free [] (by decide) (by decide) (by decide +kernel) (by decide) _ (by decide +kernel), rfl, by decide⟩
theorem awForb : forbB [sqR] (0, 0) = true ∧ forbB [sqR] (1, 0) = false ∧ touchB [sqR] (1, 0) = true := by decide +kernel
end Go.Proofs.YtpbgimdbhgahkaaGreat
/- Layer 16: awake (its walk). -/
namespace Go.Proofs.YtpbgimdbhgahkaaGreat
open Go.RowKit Go.Sort
set_option linter.unusedVariables false
set_option linter.unusedSimpArgs false
attribute [local go_sem ↓] Go.wp_at_zero Go.wp_at_succ

def unitG (g : Nat) : RgR := ⟨some ⟨g, 0, none⟩, 4, unitR⟩
theorem unitRings (w : World) : IsRings ((w.alloc (.cells #[.int .i64 0, .int .i64 0, .int .i64 1, .int .i64 0, .int .i64 1, .int .i64 1, .int .i64 0, .int .i64 1] 24)).alloc (.cells #[.slice (some ⟨w.heap.size, 0, none⟩) 4 4] 41)) (some ⟨w.heap.size + 1, 0, none⟩) 1 [unitG w.heap.size] := by
  have hU : OwnVecs w.heap.size (w.alloc (.cells #[.int .i64 0, .int .i64 0, .int .i64 1, .int .i64 0, .int .i64 1, .int .i64 1, .int .i64 0, .int .i64 1] 24)) (some ⟨w.heap.size, 0, none⟩) 4 unitR := World.ownsRow_lit w _ 4 (Nat.le_refl _) (by unfold maxLen; omega) rfl
  generalize hW : w.alloc (.cells #[.int .i64 0, .int .i64 0, .int .i64 1, .int .i64 0, .int .i64 1, .int .i64 1, .int .i64 0, .int .i64 1] 24) = W at *
  have hz : W.heap.size = w.heap.size + 1 := by rw [← hW]; simp
  have hR : Owns encG 1 W.heap.size 41 (W.alloc (.cells #[.slice (some ⟨w.heap.size, 0, none⟩) 4 4] 41)) (some ⟨W.heap.size, 0, none⟩) 1 [unitG w.heap.size] := World.ownsRow_lit W _ 1 (Nat.le_refl _) (by unfold maxLen; omega) rfl
  rw [← hz]
  refine ⟨hR.isRow encG_len, fun x hx => ?_, (show (1 : Nat) < 4611686018427387904 by omega)⟩
  rw [List.mem_singleton.1 hx]
  exact ⟨(hU.isRow encV_len).of ((SinceOf.refl _).alloc _), (show (4 : Nat) < 4611686018427387904 by omega), (show (4 : Nat) ≤ 4 by omega)⟩
set_option maxRecDepth 100000 in
set_option maxHeartbeats 8000000 in
theorem awake16_any (w : World) : Calls Tryz.prog 4 #[] w fun e w' => e = .returned (.bool true) ∧ SinceOf w w' := by
  have HU := Lib.hid (unitRings w)
  go_enter Tryz.func4, Tryz.ntmps4
  go_wp2_with fail
  refine (of_any (some ⟨w.heap.size + 1, 0, none⟩) (some ⟨w.heap.size + 1, 0, none⟩) 1 1 [unitG w.heap.size] [unitG w.heap.size] _ HU.out HU.out (show (1 : Nat) ≤ 1000 by omega) (show (1 : Nat) ≤ 1000 by omega)).mono ?_
  rintro e _ ⟨B, d, Z, err, rfl, hof, hZ, -, -, hZd, ⟨x1, rfl⟩⟩
  obtain ⟨hz, rfl⟩ := Prod.mk.inj (hof.unique (b := ([sqR], 0)) awOf)
  have hl : Z.length = 1 := by have := congrArg List.length hz; rwa [vxs_len] at this
  have hs : ∀ z ∈ Z, z.xs.length ≤ 100000 := fun z hm => by
    have : z.xs ∈ vxs Z := List.mem_map.2 ⟨z, hm, rfl⟩
    rw [hz] at this
    rw [List.mem_singleton.1 this]
    decide
  have FI := fun W (hW : SinceOf x1.wd W) => first_any B d Z 0 0 3 3 W (hZ.of hW) hs (by omega)
  have CO := fun W (hW : SinceOf x1.wd W) => count_any B d Z (-1) (-1) 1 1 W (hZ.of hW) hs (by omega)
  have F0 := fun W (hW : SinceOf x1.wd W) => forbidden_any B d Z 0 0 W (hZ.of hW) hs
  have F1 := fun W (hW : SinceOf x1.wd W) => forbidden_any B d Z 1 0 W (hZ.of hW) hs
  have T1 := fun W (hW : SinceOf x1.wd W) => touches_any B d Z 1 0 W (hZ.of hW) hs
  rw [hz] at FI CO F0 F1 T1
  rw [awForb.1] at F0
  rw [awForb.2.1] at F1
  rw [awForb.2.2] at T1
  rw [hl] at FI CO F0 F1 T1
  rw [hl]
  have HH := Lib.hid (And.intro FI (And.intro CO (And.intro F0 (And.intro F1 T1))))
  clear hof hZ hZd hz hl hs FI CO F0 F1 T1 HU
  go_wp2_with fail
  refine (HH.out.1 _ (by (repeat (first | (with_reducible exact SinceOf.refl _) | (with_reducible assumption) | (with_reducible refine SinceOf.alloc ?_ _) | (with_reducible refine SinceOf.drew ?_) | (with_reducible refine SinceOf.drewN ?_ _) | (with_reducible refine SinceOf.later ?_ _) | (with_reducible refine SinceOf.further ?_ _) | (with_reducible refine SinceOf.setCell ?_ (by first | exact Nat.le_refl _ | (simp; done) | omega | (simp; omega)) _))))).mono ?_
  rintro e _ ⟨x, y, b, rfl, hf, ⟨x2, rfl⟩⟩
  obtain ⟨hxy, rfl⟩ := Prod.mk.inj (hf.unique awFirst)
  obtain ⟨rfl, rfl⟩ := Prod.mk.inj hxy
  clear hf hxy
  go_wp2_with fail
  refine (HH.out.2.2.1 _ (by (repeat (first | (with_reducible exact SinceOf.refl _) | (with_reducible assumption) | (with_reducible refine SinceOf.alloc ?_ _) | (with_reducible refine SinceOf.drew ?_) | (with_reducible refine SinceOf.drewN ?_ _) | (with_reducible refine SinceOf.later ?_ _) | (with_reducible refine SinceOf.further ?_ _) | (with_reducible refine SinceOf.setCell ?_ (by first | exact Nat.le_refl _ | (simp; done) | omega | (simp; omega)) _))))).calls.mono ?_
  rintro e _ ⟨rfl, x3, rfl⟩
  go_wp2_with fail
  refine (HH.out.2.2.2.1 _ (by (repeat (first | (with_reducible exact SinceOf.refl _) | (with_reducible assumption) | (with_reducible refine SinceOf.alloc ?_ _) | (with_reducible refine SinceOf.drew ?_) | (with_reducible refine SinceOf.drewN ?_ _) | (with_reducible refine SinceOf.later ?_ _) | (with_reducible refine SinceOf.further ?_ _) | (with_reducible refine SinceOf.setCell ?_ (by first | exact Nat.le_refl _ | (simp; done) | omega | (simp; omega)) _))))).calls.mono ?_
  rintro e _ ⟨rfl, x4, rfl⟩
  go_wp2_with fail
  refine (HH.out.2.2.2.2 _ (by (repeat (first | (with_reducible exact SinceOf.refl _) | (with_reducible assumption) | (with_reducible refine SinceOf.alloc ?_ _) | (with_reducible refine SinceOf.drew ?_) | (with_reducible refine SinceOf.drewN ?_ _) | (with_reducible refine SinceOf.later ?_ _) | (with_reducible refine SinceOf.further ?_ _) | (with_reducible refine SinceOf.setCell ?_ (by first | exact Nat.le_refl _ | (simp; done) | omega | (simp; omega)) _))))).calls.mono ?_
  rintro e _ ⟨rfl, x5, rfl⟩
  go_wp2_with fail
  refine (HH.out.2.1 _ (by (repeat (first | (with_reducible exact SinceOf.refl _) | (with_reducible assumption) | (with_reducible refine SinceOf.alloc ?_ _) | (with_reducible refine SinceOf.drew ?_) | (with_reducible refine SinceOf.drewN ?_ _) | (with_reducible refine SinceOf.later ?_ _) | (with_reducible refine SinceOf.further ?_ _) | (with_reducible refine SinceOf.setCell ?_ (by first | exact Nat.le_refl _ | (simp; done) | omega | (simp; omega)) _))))).mono ?_
  rintro e _ ⟨n, rfl, hc, ⟨x6, rfl⟩⟩
  obtain rfl := hc.unique awCount
  clear hc
  go_wp2_with fail
  go_returns
  exact ⟨rfl, by (repeat (first | (with_reducible exact SinceOf.refl _) | (with_reducible assumption) | (with_reducible refine SinceOf.alloc ?_ _) | (with_reducible refine SinceOf.drew ?_) | (with_reducible refine SinceOf.drewN ?_ _) | (with_reducible refine SinceOf.later ?_ _) | (with_reducible refine SinceOf.further ?_ _) | (with_reducible refine SinceOf.setCell ?_ (by first | exact Nat.le_refl _ | (simp; done) | omega | (simp; omega)) _)))⟩
end Go.Proofs.YtpbgimdbhgahkaaGreat
/- Layer 16: Few of the reference, small. -/
namespace Go.Proofs.YtpbgimdbhgahkaaGreat
open Go.RowKit Go.Sort
set_option linter.unusedVariables false
set_option linter.unusedSimpArgs false
attribute [local go_sem ↓] Go.wp_at_zero Go.wp_at_succ

def Few16 (X : List RgR) : Prop := (∀ x ∈ X, x.xs.length ≤ 20 ∧ ∀ p ∈ x.xs, withinB p.1 p.2 60 = true) ∧ X.length ≤ 12
end Go.Proofs.YtpbgimdbhgahkaaGreat
/- Layer 16: small. -/
namespace Go.Proofs.YtpbgimdbhgahkaaGreat
open Go.RowKit Go.Sort
set_option linter.unusedVariables false
set_option linter.unusedSimpArgs false
attribute [local go_sem ↓] Go.wp_at_zero Go.wp_at_succ

theorem within100 {x y : Int} (h : withinB x y 100 = true) : -100 ≤ x ∧ x ≤ 100 ∧ -100 ≤ y ∧ y ≤ 100 := by
  unfold withinB at h
  rw [show wneg 100 = -100 from by unfold wneg; decide +kernel] at h
  simp only [Bool.and_eq_true, decide_eq_true_eq] at h
  omega
def smallB (lx ly hx hy : Int) : Bool := withinB lx ly 100 && withinB hx hy 100 && decide (hx - lx < 40) && decide (hy - ly < 40)
end Go.Proofs.YtpbgimdbhgahkaaGreat
/- Layer 16: NofitRows. -/
namespace Go.Proofs.YtpbgimdbhgahkaaGreat
open Go.RowKit Go.Sort
set_option linter.unusedVariables false
set_option linter.unusedSimpArgs false
attribute [local go_sem ↓] Go.wp_at_zero Go.wp_at_succ

theorem equalIn_pair (w : World) (a b c d : Int) : (Op.equalIn 10000 61 (vv a b) (vv c d)).run Tryz.prog w = .ok (eqv a b c d) w := by
  have c3 : Tryz.prog.cellsOf 3 = 1 := by kernel_rfl
  obtain ⟨i, hi⟩ : ∃ i, Tryz.prog.info? 3 = some i := Option.isSome_iff_exists.1 (by kernel_rfl)
  rw [show (10000 : Nat) = 9999 + 1 from rfl, run_equalIn_array w 9999 _ _ Tryz.underlying61 hi, c3]
  have a3 := Tryz.isAgg3
  have z3 := Tryz.sizeOf3
  have u3 := Tryz.underlying3
  simp only [List.range, List.range.loop, Op.eqItems]
  go_simp
  by_cases h1 : a = c <;> by_cases h2 : b = d <;> simp [h1, h2, eqv]
@[go_sem ↓] theorem eql_pair (w : World) (a b c d : Int) : (binOp .eql 61 (vv a b) (vv c d)).run Tryz.prog w = .ok (.bool (eqv a b c d)) w := by
  rw [run_eql_struct, equalIn_pair]; rfl
@[go_sem ↓] theorem neq_pair (w : World) (a b c d : Int) : (binOp .neq 61 (vv a b) (vv c d)).run Tryz.prog w = .ok (.bool (!eqv a b c d)) w := by
  rw [run_neq_struct, equalIn_pair]; rfl
end Go.Proofs.YtpbgimdbhgahkaaGreat
