/- Layer 16: the example of the document, its plain part. -/
import Derived.Test.YtbienlhofkfdpaaNof9
import Derived.Deep.RegionHeld3
namespace Go.Proofs.Ytbienlhofkfdpaa
open Go.RowKit Go.Sort
set_option linter.unusedVariables false
set_option linter.unusedSimpArgs false

def unitR : List Pt := [(0, 0), (1, 0), (1, 1), (0, 1)]
def negU : List Pt := [(-1, -1), (0, -1), (0, 0), (-1, 0)]
def sqR : List Pt := [(-1, -1), (1, -1), (1, 1), (-1, 1)]
theorem hullY_dec {pts r : List Pt} (h3 : 3 ≤ r.length) (hc : ∀ i < r.length, ∀ k < r.length, k ≠ i → k ≠ (i + 1) % r.length → 0 < det (at0 r i) (rv r (i + 1)) (at0 r k))
    (hl : ∀ i < r.length, ∀ q ∈ pts, 0 ≤ det (at0 r i) (rv r (i + 1)) q) (hs : ∀ q ∈ r, q ∈ pts) (hf : ∀ q ∈ pts, at0 r 0 = q ∨ ((at0 r 0).2 < q.2 ∨ ((at0 r 0).2 = q.2 ∧ (at0 r 0).1 < q.1))) : HullY pts r :=
  ⟨⟨h3, fun i k hi hk => hc i hi k hk, fun i hi => hl i hi, hs⟩, fun q hq => (hf q hq).imp id (fun h => by unfold lexy; omega)⟩
theorem negU_is : NegV unitR (negU, 0) := by
  unfold NegV
  rw [if_pos (by decide +kernel)]
  exact ⟨hullY_dec (by decide +kernel) (by decide +kernel) (by decide +kernel) (by decide +kernel) (by decide +kernel), by decide +kernel, rfl⟩
theorem sqR_is : SumV unitR negU (sqR, 0) := by
  unfold SumV
  rw [if_pos ⟨by decide +kernel, by decide +kernel⟩]
  exact ⟨sqR, hullY_dec (by decide +kernel) (by decide +kernel) (by decide +kernel) (by decide +kernel) (by decide +kernel), by decide +kernel⟩
theorem awOf : OfV [unitR] [unitR] ([sqR], 0) := by
  unfold OfV
  rw [if_neg (by decide)]
  refine ⟨([negU], 0), ⟨(negU, 0), negU_is, ?_⟩, ?_⟩
  · rw [if_pos rfl]; rfl
  · rw [if_pos rfl]
    refine ⟨(sqR, 0), sqR_is, ?_⟩
    rw [if_pos rfl]; rfl
theorem rowV_free {S : List (List Pt)} {y lo hi : Int} (m : List (Int × Int)) (h1 : -8000 ≤ y) (h2 : y ≤ 8000) (hp : m = forbF S y) (hs : m.Pairwise (fun a b => a.1 ≤ b.1)) (out : List (Int × Int)) (ho : freeS m (max lo (-8000)) (min hi 8000) = out) : RowV S y lo hi out := by
  subst ho
  exact RowV.free h1 h2 (by rw [hp]) hs
theorem awFirst : FirstV [sqR] 0 3 (boxYs 0 3) ((1, 0), true) := by
  rw [show boxYs 0 3 = [0, 1, 2, 3] from by decide +kernel]
  exact ⟨[(1, 3)], rowV_free [(0, 0)] (by decide) (by decide) (by decide +kernel) (by decide) _ (by decide +kernel), rfl⟩
theorem awCount : CountV [sqR] (-1) 1 (boxYs (-1) 1) 8 := by
  rw [show boxYs (-1) 1 = [-1, 0, 1] from by decide +kernel]
  refine ⟨[(-1, 1)], 5, rowV_free [] (by decide) (by decide) (by decide +kernel) (by decide) _ (by decide +kernel), ?_, by decide⟩
  refine ⟨[(-1, -1), (1, 1)], 3, rowV_free [(0, 0)] (by decide) (by decide) (by decide +kernel) (by decide) _ (by decide +kernel), ?_, by decide⟩
  exact ⟨[(-1, 1)], 0, rowV_free [] (by decide) (by decide) (by decide +kernel) (by decide) _ (by decide +kernel), rfl, by decide⟩
theorem awForb : forbB [sqR] (0, 0) = true ∧ forbB [sqR] (1, 0) = false ∧ touchB [sqR] (1, 0) = true := by decide +kernel
end Go.Proofs.Ytbienlhofkfdpaa
/- Layer 16: awake (its walk). -/
namespace Go.Proofs.Ytbienlhofkfdpaa
open Go.RowKit Go.Sort
set_option linter.unusedVariables false
set_option linter.unusedSimpArgs false
attribute [local go_sem ↓] Go.wp_at_zero Go.wp_at_succ

def unitG (g : Nat) : RgR := ⟨some ⟨g, 0, none⟩, 4, unitR⟩
theorem unitRings (w : World) : IsRings ((w.alloc (.cells #[.int .i64 0, .int .i64 0, .int .i64 1, .int .i64 0, .int .i64 1, .int .i64 1, .int .i64 0, .int .i64 1] 37)).alloc (.cells #[.slice (some ⟨w.heap.size, 0, none⟩) 4 4] 23)) (some ⟨w.heap.size + 1, 0, none⟩) 1 [unitG w.heap.size] := by
  have hU : OwnVecs w.heap.size (w.alloc (.cells #[.int .i64 0, .int .i64 0, .int .i64 1, .int .i64 0, .int .i64 1, .int .i64 1, .int .i64 0, .int .i64 1] 37)) (some ⟨w.heap.size, 0, none⟩) 4 unitR := World.ownsRow_lit w _ 4 (Nat.le_refl _) (by unfold maxLen; omega) rfl
  generalize hW : w.alloc (.cells #[.int .i64 0, .int .i64 0, .int .i64 1, .int .i64 0, .int .i64 1, .int .i64 1, .int .i64 0, .int .i64 1] 37) = W at *
  have hz : W.heap.size = w.heap.size + 1 := by rw [← hW]; simp
  have hR : Owns encG 1 W.heap.size 23 (W.alloc (.cells #[.slice (some ⟨w.heap.size, 0, none⟩) 4 4] 23)) (some ⟨W.heap.size, 0, none⟩) 1 [unitG w.heap.size] := World.ownsRow_lit W _ 1 (Nat.le_refl _) (by unfold maxLen; omega) rfl
  rw [← hz]
  refine ⟨hR.isRow encG_len, fun x hx => ?_, (show (1 : Nat) < 4611686018427387904 by omega)⟩
  rw [List.mem_singleton.1 hx]
  exact ⟨(hU.isRow encV_len).of ((SinceOf.refl _).alloc _), (show (4 : Nat) < 4611686018427387904 by omega), (show (4 : Nat) ≤ 4 by omega)⟩
set_option maxRecDepth 100000 in
set_option maxHeartbeats 8000000 in
theorem awake16_any (w : World) : Calls Try.prog 31 #[] w fun e w' => e = .returned (.bool true) ∧ SinceOf w w' := by
  have HU := Lib.hid (unitRings w)
  go_enter Try.func31, Try.ntmps31
  go_wp2_with fail
  refine (of_any (some ⟨w.heap.size + 1, 0, none⟩) (some ⟨w.heap.size + 1, 0, none⟩) 1 1 [unitG w.heap.size] [unitG w.heap.size] _ HU.out HU.out (show (1 : Nat) ≤ 1000 by omega) (show (1 : Nat) ≤ 1000 by omega)).mono ?_
  rintro e _ ⟨B, d, Z, err, rfl, hof, hZ, -, -, hZd, ⟨x1, rfl⟩⟩
  obtain ⟨hz, rfl⟩ := Prod.mk.inj (hof.unique (b := ([sqR], 0)) awOf)
  have hl : Z.length = 1 := by have := congrArg List.length hz; rwa [vxs_len] at this
  have hs : ∀ z ∈ Z, z.xs.length ≤ 100000 := fun z hm => by
    have : z.xs ∈ vxs Z := List.mem_map.2 ⟨z, hm, rfl⟩
    rw [hz] at this
    rw [List.mem_singleton.1 this]
    decide
  have FI := fun W (hW : SinceOf x1.wd W) => first_any B d Z 0 0 3 3 W (hZ.of hW) hs (by omega)
  have CO := fun W (hW : SinceOf x1.wd W) => count_any B d Z (-1) (-1) 1 1 W (hZ.of hW) hs (by omega)
  have F0 := fun W (hW : SinceOf x1.wd W) => forbidden_any B d Z 0 0 W (hZ.of hW) hs
  have F1 := fun W (hW : SinceOf x1.wd W) => forbidden_any B d Z 1 0 W (hZ.of hW) hs
  have T1 := fun W (hW : SinceOf x1.wd W) => touches_any B d Z 1 0 W (hZ.of hW) hs
  rw [hz] at FI CO F0 F1 T1
  rw [awForb.1] at F0
  rw [awForb.2.1] at F1
  rw [awForb.2.2] at T1
  rw [hl] at FI CO F0 F1 T1
  rw [hl]
  have HH := Lib.hid (And.intro FI (And.intro CO (And.intro F0 (And.intro F1 T1))))
  clear hof hZ hZd hz hl hs FI CO F0 F1 T1 HU
  go_wp2_with fail
  refine (HH.out.1 _ (by (repeat (first | (with_reducible exact SinceOf.refl _) | (with_reducible assumption) | (with_reducible refine SinceOf.alloc ?_ _) | (with_reducible refine SinceOf.drew ?_) | (with_reducible refine SinceOf.drewN ?_ _) | (with_reducible refine SinceOf.later ?_ _) | (with_reducible refine SinceOf.further ?_ _) | (with_reducible refine SinceOf.setCell ?_ (by first | exact Nat.le_refl _ | (simp; done) | omega | (simp; omega)) _))))).mono ?_
  rintro e _ ⟨x, y, b, rfl, hf, ⟨x2, rfl⟩⟩
  obtain ⟨hxy, rfl⟩ := Prod.mk.inj (hf.unique awFirst)
  obtain ⟨rfl, rfl⟩ := Prod.mk.inj hxy
  clear hf hxy
  go_wp2_with fail
  refine (HH.out.2.2.1 _ (by (repeat (first | (with_reducible exact SinceOf.refl _) | (with_reducible assumption) | (with_reducible refine SinceOf.alloc ?_ _) | (with_reducible refine SinceOf.drew ?_) | (with_reducible refine SinceOf.drewN ?_ _) | (with_reducible refine SinceOf.later ?_ _) | (with_reducible refine SinceOf.further ?_ _) | (with_reducible refine SinceOf.setCell ?_ (by first | exact Nat.le_refl _ | (simp; done) | omega | (simp; omega)) _))))).calls.mono ?_
  rintro e _ ⟨rfl, x3, rfl⟩
  go_wp2_with fail
  refine (HH.out.2.2.2.1 _ (by (repeat (first | (with_reducible exact SinceOf.refl _) | (with_reducible assumption) | (with_reducible refine SinceOf.alloc ?_ _) | (with_reducible refine SinceOf.drew ?_) | (with_reducible refine SinceOf.drewN ?_ _) | (with_reducible refine SinceOf.later ?_ _) | (with_reducible refine SinceOf.further ?_ _) | (with_reducible refine SinceOf.setCell ?_ (by first | exact Nat.le_refl _ | (simp; done) | omega | (simp; omega)) _))))).calls.mono ?_
  rintro e _ ⟨rfl, x4, rfl⟩
  go_wp2_with fail
  refine (HH.out.2.2.2.2 _ (by (repeat (first | (with_reducible exact SinceOf.refl _) | (with_reducible assumption) | (with_reducible refine SinceOf.alloc ?_ _) | (with_reducible refine SinceOf.drew ?_) | (with_reducible refine SinceOf.drewN ?_ _) | (with_reducible refine SinceOf.later ?_ _) | (with_reducible refine SinceOf.further ?_ _) | (with_reducible refine SinceOf.setCell ?_ (by first | exact Nat.le_refl _ | (simp; done) | omega | (simp; omega)) _))))).calls.mono ?_
  rintro e _ ⟨rfl, x5, rfl⟩
  go_wp2_with fail
  refine (HH.out.2.1 _ (by (repeat (first | (with_reducible exact SinceOf.refl _) | (with_reducible assumption) | (with_reducible refine SinceOf.alloc ?_ _) | (with_reducible refine SinceOf.drew ?_) | (with_reducible refine SinceOf.drewN ?_ _) | (with_reducible refine SinceOf.later ?_ _) | (with_reducible refine SinceOf.further ?_ _) | (with_reducible refine SinceOf.setCell ?_ (by first | exact Nat.le_refl _ | (simp; done) | omega | (simp; omega)) _))))).mono ?_
  rintro e _ ⟨n, rfl, hc, ⟨x6, rfl⟩⟩
  obtain rfl := hc.unique awCount
  clear hc
  go_wp2_with fail
  go_returns
  exact ⟨rfl, by (repeat (first | (with_reducible exact SinceOf.refl _) | (with_reducible assumption) | (with_reducible refine SinceOf.alloc ?_ _) | (with_reducible refine SinceOf.drew ?_) | (with_reducible refine SinceOf.drewN ?_ _) | (with_reducible refine SinceOf.later ?_ _) | (with_reducible refine SinceOf.further ?_ _) | (with_reducible refine SinceOf.setCell ?_ (by first | exact Nat.le_refl _ | (simp; done) | omega | (simp; omega)) _)))⟩
end Go.Proofs.Ytbienlhofkfdpaa
/- Layer 16: Few of the reference, small. -/
namespace Go.Proofs.Ytbienlhofkfdpaa
open Go.RowKit Go.Sort
set_option linter.unusedVariables false
set_option linter.unusedSimpArgs false
attribute [local go_sem ↓] Go.wp_at_zero Go.wp_at_succ

def Few16 (X : List RgR) : Prop := (∀ x ∈ X, x.xs.length ≤ 20 ∧ ∀ p ∈ x.xs, withinB p.1 p.2 60 = true) ∧ X.length ≤ 12
set_option maxRecDepth 100000 in
set_option maxHeartbeats 8000000 in
theorem refFew16_any (A : Option Addr) (c : Nat) (X : List RgR) (w : World) (h : IsRings w A c X) :
    Calls Try.prog 32 #[.slice A X.length c] w fun e w' => ∃ b, e = .returned (.bool b) ∧ (b = true → Few16 X) ∧ SinceOf w w' := by
  have hl := h.len
  have H := Lib.hid h
  clear h
  go_enter Try.func32, Try.ntmps32
  go_wp2_with fail
  go_loopg [3] X.length (fun gas s3 wr => ∃ i : Nat, s3 = .int .i64 i ∧ i ≤ X.length ∧ X.length - i ≤ gas ∧ (∀ x ∈ X.take i, x.xs.length ≤ 20 ∧ ∀ p ∈ x.xs, withinB p.1 p.2 60 = true) ∧ SinceOf w wr)
  case atStart => exact ⟨0, rfl, Nat.zero_le _, by omega, fun x hx => by simp at hx, by (repeat (first | (with_reducible exact SinceOf.refl _) | (with_reducible assumption) | (with_reducible refine SinceOf.alloc ?_ _) | (with_reducible refine SinceOf.drew ?_) | (with_reducible refine SinceOf.drewN ?_ _) | (with_reducible refine SinceOf.later ?_ _) | (with_reducible refine SinceOf.further ?_ _) | (with_reducible refine SinceOf.setCell ?_ (by first | exact Nat.le_refl _ | (simp; done) | omega | (simp; omega)) _)))⟩
  case round =>
    obtain ⟨i, rfl, hi, hgas, hall, ⟨z, rfl⟩⟩ := hrel
    by_cases hlt : i < X.length
    · obtain ⟨g, off, rfl, hr⟩ := (H.out.of (w' := z.wd) (by (repeat (first | (with_reducible exact SinceOf.refl _) | (with_reducible assumption) | (with_reducible refine SinceOf.alloc ?_ _) | (with_reducible refine SinceOf.drew ?_) | (with_reducible refine SinceOf.drewN ?_ _) | (with_reducible refine SinceOf.later ?_ _) | (with_reducible refine SinceOf.further ?_ _) | (with_reducible refine SinceOf.setCell ?_ (by first | exact Nat.le_refl _ | (simp; done) | omega | (simp; omega)) _))))).row.at_ (by omega)
      have hO := hr.there
      have k0 := hr.g0 i hlt
      have hx := (H.out.of (w' := z.wd) (by (repeat (first | (with_reducible exact SinceOf.refl _) | (with_reducible assumption) | (with_reducible refine SinceOf.alloc ?_ _) | (with_reducible refine SinceOf.drew ?_) | (with_reducible refine SinceOf.drewN ?_ _) | (with_reducible refine SinceOf.later ?_ _) | (with_reducible refine SinceOf.further ?_ _) | (with_reducible refine SinceOf.setCell ?_ (by first | exact Nat.le_refl _ | (simp; done) | omega | (simp; omega)) _))))).all _ (List.getElem_mem hlt)
      have F := few15_any X[i].A X[i].xs.length X[i].c
      obtain ⟨x, hxe⟩ : ∃ x, x = X[i] := ⟨_, rfl⟩
      rw [← hxe] at k0 hx F
      have hxl := hx.len
      have HE := Lib.hid (And.intro hall (And.intro hxe hx))
      clear hr hall hxe hx
      obtain ⟨xA, xc, xs⟩ := x
      simp only at k0 hxl F
      by_cases ff : xs.length ≤ 20
      · rw [decide_eq_true ff] at F
        go_wp2_with fail
        refine (F _).calls.mono ?_
        rintro e _ ⟨rfl, x2, rfl⟩
        clear F
        go_wp2_with fail
        go_loopg [4] xs.length (fun gas s4 wr => ∃ j : Nat, s4 = .int .i64 j ∧ j ≤ xs.length ∧ xs.length - j ≤ gas ∧ (∀ p ∈ xs.take j, withinB p.1 p.2 60 = true) ∧ SinceOf z.wd wr)
        case atStart => exact ⟨0, rfl, Nat.zero_le _, by omega, fun p hp => by simp at hp, by (repeat (first | (with_reducible exact SinceOf.refl _) | (with_reducible assumption) | (with_reducible refine SinceOf.alloc ?_ _) | (with_reducible refine SinceOf.drew ?_) | (with_reducible refine SinceOf.drewN ?_ _) | (with_reducible refine SinceOf.later ?_ _) | (with_reducible refine SinceOf.further ?_ _) | (with_reducible refine SinceOf.setCell ?_ (by first | exact Nat.le_refl _ | (simp; done) | omega | (simp; omega)) _)))⟩
        case round =>
          obtain ⟨j, rfl, hj, hg2, hpp, ⟨z2, rfl⟩⟩ := hrel
          have k1 : z2.wd.cell? ⟨g, off + i, none⟩ = some (.slice xA xs.length xc) := by rw [Since.cell]; exact k0
          by_cases hlt2 : j < xs.length
          · obtain ⟨g2, off2, hA2, hr2⟩ := (HE.out.2.2.of (w' := z2.wd) (by (repeat (first | (with_reducible exact SinceOf.refl _) | (with_reducible assumption) | (with_reducible refine SinceOf.alloc ?_ _) | (with_reducible refine SinceOf.drew ?_) | (with_reducible refine SinceOf.drewN ?_ _) | (with_reducible refine SinceOf.later ?_ _) | (with_reducible refine SinceOf.further ?_ _) | (with_reducible refine SinceOf.setCell ?_ (by first | exact Nat.le_refl _ | (simp; done) | omega | (simp; omega)) _))))).row.at_ (show 0 < xs.length by omega)
            have hO2 := hr2.there
            have a0 := hr2.v0 j hlt2
            have a1 := hr2.v1 j hlt2
            obtain ⟨p, hp⟩ : ∃ p, p = xs[j] := ⟨_, rfl⟩
            simp only at hA2 a0 a1
            subst hA2
            rw [← hp] at a0 a1
            have W6 := refWithin_any p.1 p.2 60
            have HQ := Lib.hid (And.intro hpp hp)
            clear hpp hp hr2
            obtain ⟨px, py⟩ := p
            simp only at a0 a1 W6
            cases hb : withinB px py 60
            · rw [hb] at W6
              clear hb
              clear k0
              go_wp2_with fail
              refine (W6 _).calls.mono ?_
              rintro e _ ⟨rfl, x3, rfl⟩
              go_wp2_with fail
              go_returns
              exact ⟨false, rfl, (fun e => by cases e), by (repeat (first | (with_reducible exact SinceOf.refl _) | (with_reducible assumption) | (with_reducible refine SinceOf.alloc ?_ _) | (with_reducible refine SinceOf.drew ?_) | (with_reducible refine SinceOf.drewN ?_ _) | (with_reducible refine SinceOf.later ?_ _) | (with_reducible refine SinceOf.further ?_ _) | (with_reducible refine SinceOf.setCell ?_ (by first | exact Nat.le_refl _ | (simp; done) | omega | (simp; omega)) _)))⟩
            · rw [hb] at W6
              have HB := Lib.hid hb
              clear hb
              clear k0
              go_wp2_with fail
              refine (W6 _).calls.mono ?_
              rintro e _ ⟨rfl, x3, rfl⟩
              go_wp2_with fail
              go_roundg (xs.length - (j + 1))
              case measure => omega
              case rel => exact ⟨j + 1, by go_num, hlt2, Nat.le_refl _, fun q hq => by
                  rw [List.take_succ_eq_append_getElem hlt2, ← HQ.out.2] at hq
                  rcases List.mem_append.1 hq with e | e
                  · exact HQ.out.1 q e
                  · rw [List.mem_singleton.1 e]; exact HB.out, by (repeat (first | (with_reducible exact SinceOf.refl _) | (with_reducible assumption) | (with_reducible refine SinceOf.alloc ?_ _) | (with_reducible refine SinceOf.drew ?_) | (with_reducible refine SinceOf.drewN ?_ _) | (with_reducible refine SinceOf.later ?_ _) | (with_reducible refine SinceOf.further ?_ _) | (with_reducible refine SinceOf.setCell ?_ (by first | exact Nat.le_refl _ | (simp; done) | omega | (simp; omega)) _)))⟩
          · have hjl : j = xs.length := by omega
            have HQ := Lib.hid (show ∀ p ∈ xs, withinB p.1 p.2 60 = true by rw [hjl, List.take_length] at hpp; exact hpp)
            have g5 : decide ((j : Int) < (xs.length : Int)) = false := decide_eq_false (by omega)
            clear hpp hjl k0
            go_wp2_with fail
            go_roundg (X.length - (i + 1))
            case measure => omega
            case rel => exact ⟨i + 1, by go_num, hlt, Nat.le_refl _, fun q hq => by
                rw [List.take_succ_eq_append_getElem hlt, ← HE.out.2.1] at hq
                rcases List.mem_append.1 hq with e | e
                · exact HE.out.1 q e
                · rw [List.mem_singleton.1 e]; exact ⟨ff, HQ.out⟩, by (repeat (first | (with_reducible exact SinceOf.refl _) | (with_reducible assumption) | (with_reducible refine SinceOf.alloc ?_ _) | (with_reducible refine SinceOf.drew ?_) | (with_reducible refine SinceOf.drewN ?_ _) | (with_reducible refine SinceOf.later ?_ _) | (with_reducible refine SinceOf.further ?_ _) | (with_reducible refine SinceOf.setCell ?_ (by first | exact Nat.le_refl _ | (simp; done) | omega | (simp; omega)) _)))⟩
      · rw [decide_eq_false ff] at F
        go_wp2_with fail
        refine (F _).calls.mono ?_
        rintro e _ ⟨rfl, x2, rfl⟩
        go_wp2_with fail
        go_returns
        exact ⟨false, rfl, (fun e => by cases e), by (repeat (first | (with_reducible exact SinceOf.refl _) | (with_reducible assumption) | (with_reducible refine SinceOf.alloc ?_ _) | (with_reducible refine SinceOf.drew ?_) | (with_reducible refine SinceOf.drewN ?_ _) | (with_reducible refine SinceOf.later ?_ _) | (with_reducible refine SinceOf.further ?_ _) | (with_reducible refine SinceOf.setCell ?_ (by first | exact Nat.le_refl _ | (simp; done) | omega | (simp; omega)) _)))⟩
    · have hil : i = X.length := by omega
      subst hil
      rw [List.take_length] at hall
      have HE := Lib.hid hall
      clear hall
      go_wp2_with fail
      go_returns
      exact ⟨_, rfl, fun e => ⟨HE.out, by have := of_decide_eq_true e; omega⟩, by (repeat (first | (with_reducible exact SinceOf.refl _) | (with_reducible assumption) | (with_reducible refine SinceOf.alloc ?_ _) | (with_reducible refine SinceOf.drew ?_) | (with_reducible refine SinceOf.drewN ?_ _) | (with_reducible refine SinceOf.later ?_ _) | (with_reducible refine SinceOf.further ?_ _) | (with_reducible refine SinceOf.setCell ?_ (by first | exact Nat.le_refl _ | (simp; done) | omega | (simp; omega)) _)))⟩
end Go.Proofs.Ytbienlhofkfdpaa
/- Layer 16: small. -/
namespace Go.Proofs.Ytbienlhofkfdpaa
open Go.RowKit Go.Sort
set_option linter.unusedVariables false
set_option linter.unusedSimpArgs false
attribute [local go_sem ↓] Go.wp_at_zero Go.wp_at_succ

theorem within100 {x y : Int} (h : withinB x y 100 = true) : -100 ≤ x ∧ x ≤ 100 ∧ -100 ≤ y ∧ y ≤ 100 := by
  unfold withinB at h
  rw [show wneg 100 = -100 from by unfold wneg; decide +kernel] at h
  simp only [Bool.and_eq_true, decide_eq_true_eq] at h
  omega
def smallB (lx ly hx hy : Int) : Bool := withinB lx ly 100 && withinB hx hy 100 && decide (hx - lx < 40) && decide (hy - ly < 40)
set_option maxRecDepth 100000 in
set_option maxHeartbeats 8000000 in
theorem small16_any (lx ly hx hy : Int) (w : World) : Gives Try.prog 33 #[.agg #[.int .i64 lx, .int .i64 ly, .int .i64 hx, .int .i64 hy]] w (.bool (smallB lx ly hx hy)) := by
  apply Gives.ret
  have W1 := refWithin_any lx ly 100
  have W2 := refWithin_any hx hy 100
  unfold smallB
  cases h1 : withinB lx ly 100
  · rw [h1] at W1
    clear h1 W2
    go_enter Try.func33, Try.ntmps33
    go_wp2_with fail
    refine (W1 _).calls.mono ?_
    rintro e _ ⟨rfl, x1, rfl⟩
    go_wp2_with fail
    go_returns
    exact ⟨rfl, by (repeat (first | (with_reducible exact LaterOf.refl _) | (with_reducible refine LaterOf.alloc ?_ _) | (with_reducible refine LaterOf.drew ?_) | (with_reducible refine LaterOf.drewN ?_ _) | (with_reducible refine LaterOf.later ?_ _) | (with_reducible refine LaterOf.setCell ?_ (by first | exact Nat.le_refl _ | (simp; done) | omega | (simp; omega)) _)))⟩
  · have b1 := within100 h1
    rw [h1] at W1
    clear h1
    cases h2 : withinB hx hy 100
    · rw [h2] at W2
      clear h2
      go_enter Try.func33, Try.ntmps33
      go_wp2_with fail
      refine (W1 _).calls.mono ?_
      rintro e _ ⟨rfl, x1, rfl⟩
      go_wp2_with fail
      refine (W2 _).calls.mono ?_
      rintro e _ ⟨rfl, x2, rfl⟩
      go_wp2_with fail
      go_returns
      exact ⟨rfl, by (repeat (first | (with_reducible exact LaterOf.refl _) | (with_reducible refine LaterOf.alloc ?_ _) | (with_reducible refine LaterOf.drew ?_) | (with_reducible refine LaterOf.drewN ?_ _) | (with_reducible refine LaterOf.later ?_ _) | (with_reducible refine LaterOf.setCell ?_ (by first | exact Nat.le_refl _ | (simp; done) | omega | (simp; omega)) _)))⟩
    · have b2 := within100 h2
      rw [h2] at W2
      clear h2
      have q1 : IntKind.i64.wrap (hx - lx) = hx - lx := IntWalk.i64_in _ (by omega)
      have q2 : IntKind.i64.wrap (hy - ly) = hy - ly := IntWalk.i64_in _ (by omega)
      cases h3 : decide (hx - lx < 40)
      all_goals
        go_enter Try.func33, Try.ntmps33
        go_wp2_with fail
        refine (W1 _).calls.mono ?_
        rintro e _ ⟨rfl, x1, rfl⟩
        go_wp2_with fail
        refine (W2 _).calls.mono ?_
        rintro e _ ⟨rfl, x2, rfl⟩
        go_wp2_with fail
        go_returns
        exact ⟨by first | rfl | simp, by (repeat (first | (with_reducible exact LaterOf.refl _) | (with_reducible refine LaterOf.alloc ?_ _) | (with_reducible refine LaterOf.drew ?_) | (with_reducible refine LaterOf.drewN ?_ _) | (with_reducible refine LaterOf.later ?_ _) | (with_reducible refine LaterOf.setCell ?_ (by first | exact Nat.le_refl _ | (simp; done) | omega | (simp; omega)) _)))⟩
end Go.Proofs.Ytbienlhofkfdpaa
/- Layer 16: NofitRows. -/
namespace Go.Proofs.Ytbienlhofkfdpaa
open Go.RowKit Go.Sort
set_option linter.unusedVariables false
set_option linter.unusedSimpArgs false
attribute [local go_sem ↓] Go.wp_at_zero Go.wp_at_succ

theorem equalIn_pair (w : World) (a b c d : Int) : (Op.equalIn 10000 58 (vv a b) (vv c d)).run Try.prog w = .ok (eqv a b c d) w := by
  have c3 : Try.prog.cellsOf 3 = 1 := by kernel_rfl
  obtain ⟨i, hi⟩ : ∃ i, Try.prog.info? 3 = some i := Option.isSome_iff_exists.1 (by kernel_rfl)
  rw [show (10000 : Nat) = 9999 + 1 from rfl, run_equalIn_array w 9999 _ _ Try.underlying58 hi, c3]
  have a3 := Try.isAgg3
  have z3 := Try.sizeOf3
  have u3 := Try.underlying3
  simp only [List.range, List.range.loop, Op.eqItems]
  go_simp
  by_cases h1 : a = c <;> by_cases h2 : b = d <;> simp [h1, h2, eqv]
@[go_sem ↓] theorem eql_pair (w : World) (a b c d : Int) : (binOp .eql 58 (vv a b) (vv c d)).run Try.prog w = .ok (.bool (eqv a b c d)) w := by
  rw [run_eql_struct, equalIn_pair]; rfl
@[go_sem ↓] theorem neq_pair (w : World) (a b c d : Int) : (binOp .neq 58 (vv a b) (vv c d)).run Try.prog w = .ok (.bool (!eqv a b c d)) w := by
  rw [run_neq_struct, equalIn_pair]; rfl
set_option maxRecDepth 100000 in
set_option maxHeartbeats 16000000 in
theorem nofitRows_any (A : Option Addr) (c : Nat) (X : List RgR) (lx ly hx hy : Int) (w : World) (h : IsRings w A c X) : Yields Try.prog 8 #[.slice A X.length c, .agg #[.int .i64 lx, .int .i64 ly, .int .i64 hx, .int .i64 hy]] w (.bool true) := by
  apply Yields.ret
  have SM := small16_any lx ly hx hy
  have H := Lib.hid h
  clear h
  cases hsm : smallB lx ly hx hy
  case false =>
    rw [hsm] at SM
    go_enter Try.func8, Try.ntmps8
    go_wp2_with fail
    refine (awake16_any _).mono ?_
    rintro e _ ⟨rfl, x1, rfl⟩
    go_wp2_with fail
    refine (refFew16_any A c X _ (H.out.of (by (repeat (first | (with_reducible exact SinceOf.refl _) | (with_reducible assumption) | (with_reducible refine SinceOf.alloc ?_ _) | (with_reducible refine SinceOf.drew ?_) | (with_reducible refine SinceOf.drewN ?_ _) | (with_reducible refine SinceOf.later ?_ _) | (with_reducible refine SinceOf.further ?_ _) | (with_reducible refine SinceOf.setCell ?_ (by first | exact Nat.le_refl _ | (simp; done) | omega | (simp; omega)) _)))))).mono ?_
    rintro e _ ⟨b, rfl, hb, ⟨x2, rfl⟩⟩
    cases b
    · clear hb
      go_wp2_with fail
      go_returns
      exact ⟨rfl, by (repeat (first | (with_reducible exact SinceOf.refl _) | (with_reducible assumption) | (with_reducible refine SinceOf.alloc ?_ _) | (with_reducible refine SinceOf.drew ?_) | (with_reducible refine SinceOf.drewN ?_ _) | (with_reducible refine SinceOf.later ?_ _) | (with_reducible refine SinceOf.further ?_ _) | (with_reducible refine SinceOf.setCell ?_ (by first | exact Nat.le_refl _ | (simp; done) | omega | (simp; omega)) _)))⟩
    · clear hb
      go_wp2_with fail
      refine (SM _).calls.mono ?_
      rintro e _ ⟨rfl, x3, rfl⟩
      go_wp2_with fail
      go_returns
      exact ⟨rfl, by (repeat (first | (with_reducible exact SinceOf.refl _) | (with_reducible assumption) | (with_reducible refine SinceOf.alloc ?_ _) | (with_reducible refine SinceOf.drew ?_) | (with_reducible refine SinceOf.drewN ?_ _) | (with_reducible refine SinceOf.later ?_ _) | (with_reducible refine SinceOf.further ?_ _) | (with_reducible refine SinceOf.setCell ?_ (by first | exact Nat.le_refl _ | (simp; done) | omega | (simp; omega)) _)))⟩
  rw [hsm] at SM
  clear hsm
  go_enter Try.func8, Try.ntmps8
  go_wp2_with fail
  refine (awake16_any _).mono ?_
  rintro e _ ⟨rfl, x1, rfl⟩
  go_wp2_with fail
  refine (refFew16_any A c X _ (H.out.of (by (repeat (first | (with_reducible exact SinceOf.refl _) | (with_reducible assumption) | (with_reducible refine SinceOf.alloc ?_ _) | (with_reducible refine SinceOf.drew ?_) | (with_reducible refine SinceOf.drewN ?_ _) | (with_reducible refine SinceOf.later ?_ _) | (with_reducible refine SinceOf.further ?_ _) | (with_reducible refine SinceOf.setCell ?_ (by first | exact Nat.le_refl _ | (simp; done) | omega | (simp; omega)) _)))))).mono ?_
  rintro e _ ⟨b, rfl, hb, ⟨x2, rfl⟩⟩
  cases b
  · clear hb
    go_wp2_with fail
    go_returns
    exact ⟨rfl, by (repeat (first | (with_reducible exact SinceOf.refl _) | (with_reducible assumption) | (with_reducible refine SinceOf.alloc ?_ _) | (with_reducible refine SinceOf.drew ?_) | (with_reducible refine SinceOf.drewN ?_ _) | (with_reducible refine SinceOf.later ?_ _) | (with_reducible refine SinceOf.further ?_ _) | (with_reducible refine SinceOf.setCell ?_ (by first | exact Nat.le_refl _ | (simp; done) | omega | (simp; omega)) _)))⟩
  have hf := hb rfl
  have hs : ∀ x ∈ X, x.xs.length ≤ 100000 := fun x hx => by have := (hf.1 x hx).1; omega
  have hX : X.length ≤ 10000 := by have := hf.2; omega
  have HS := Lib.hid (And.intro hs hX)
  clear hb hf hs hX
  go_wp2_with fail
  refine (SM _).calls.mono ?_
  rintro e _ ⟨rfl, x3, rfl⟩
  clear SM
  go_upto_region 6 with fail
  go_cut [6, 7] (fun s6 s7 wx => ∃ (A1 A2 : Option Addr) (c1 c2 : Nat) (out : List (Int × Int)), s6 = .slice A1 out.length c1 ∧ s7 = .slice A2 out.length c2 ∧ IsVecs wx A1 c1 out ∧ IsVecs wx A2 c2 out ∧ RowV (vxs X) ly lx hx out ∧ SinceOf x3.wd wx)
  case first =>
    go_region_held3 (fun w' => w'.cell? ⟨w.heap.size, 0, none⟩ = some (.int .i64 lx) ∧ w'.cell? ⟨w.heap.size, 1, none⟩ = some (.int .i64 ly) ∧ w'.cell? ⟨w.heap.size, 2, none⟩ = some (.int .i64 hx) ∧ w'.cell? ⟨w.heap.size, 3, none⟩ = some (.int .i64 hy)) ((simp [go_sem, *]))
      (first | (go_at_call 34; refine (nofRow_any A c X ly lx hx _ (H.out.of (by (repeat (first | (with_reducible exact SinceOf.refl _) | (with_reducible assumption) | (with_reducible refine SinceOf.alloc ?_ _) | (with_reducible refine SinceOf.drew ?_) | (with_reducible refine SinceOf.drewN ?_ _) | (with_reducible refine SinceOf.later ?_ _) | (with_reducible refine SinceOf.further ?_ _) | (with_reducible refine SinceOf.setCell ?_ (by first | exact Nat.le_refl _ | (simp; done) | omega | (simp; omega)) _))))) HS.out.1 HS.out.2).mono ?_; rintro e _ ⟨A1, c1, o1, rfl, hr1, ho1, ⟨z1, rfl⟩⟩) | (go_at_call 35; refine (refNofRow_any A c X ly lx hx _ (H.out.of (by (repeat (first | (with_reducible exact SinceOf.refl _) | (with_reducible assumption) | (with_reducible refine SinceOf.alloc ?_ _) | (with_reducible refine SinceOf.drew ?_) | (with_reducible refine SinceOf.drewN ?_ _) | (with_reducible refine SinceOf.later ?_ _) | (with_reducible refine SinceOf.further ?_ _) | (with_reducible refine SinceOf.setCell ?_ (by first | exact Nat.le_refl _ | (simp; done) | omega | (simp; omega)) _))))) HS.out.1).mono ?_; rintro e _ ⟨A2, c2, o2, rfl, hr2, ho2, ⟨z2, rfl⟩⟩))
    all_goals (obtain rfl := hr1.unique hr2; go_wp2_with fail; go_meet; exact ⟨A1, A2, c1, c2, o1, rfl, rfl, (ho1.isRow encV_len).of (by (repeat (first | (with_reducible exact SinceOf.refl _) | (with_reducible assumption) | (with_reducible refine SinceOf.alloc ?_ _) | (with_reducible refine SinceOf.drew ?_) | (with_reducible refine SinceOf.drewN ?_ _) | (with_reducible refine SinceOf.later ?_ _) | (with_reducible refine SinceOf.further ?_ _) | (with_reducible refine SinceOf.setCell ?_ (by first | exact Nat.le_refl _ | (simp; done) | omega | (simp; omega)) _)))), (ho2.isRow encV_len).of (by (repeat (first | (with_reducible exact SinceOf.refl _) | (with_reducible assumption) | (with_reducible refine SinceOf.alloc ?_ _) | (with_reducible refine SinceOf.drew ?_) | (with_reducible refine SinceOf.drewN ?_ _) | (with_reducible refine SinceOf.later ?_ _) | (with_reducible refine SinceOf.further ?_ _) | (with_reducible refine SinceOf.setCell ?_ (by first | exact Nat.le_refl _ | (simp; done) | omega | (simp; omega)) _)))), hr1, by (repeat (first | (with_reducible exact SinceOf.refl _) | (with_reducible assumption) | (with_reducible refine SinceOf.alloc ?_ _) | (with_reducible refine SinceOf.drew ?_) | (with_reducible refine SinceOf.drewN ?_ _) | (with_reducible refine SinceOf.later ?_ _) | (with_reducible refine SinceOf.further ?_ _) | (with_reducible refine SinceOf.setCell ?_ (by first | exact Nat.le_refl _ | (simp; done) | omega | (simp; omega)) _)))⟩)
  case rest =>
    obtain ⟨A1, A2, c1, c2, out, rfl, rfl, hv1, hv2, hrow, ⟨z, rfl⟩⟩ := hcut
    have hout : out.length ≤ 100000 := by
      have h1 := len_le_tot (l := out) (fun f hf => (hrow.bnd f hf).1)
      have h2 := hrow.tot
      omega
    have HV := Lib.hid (And.intro hv1 (And.intro hv2 hrow))
    clear hv1 hv2 hrow
    go_wp2_with fail
    go_loopg [8] out.length (fun gas s8 wr => ∃ i : Nat, s8 = .int .i64 i ∧ i ≤ out.length ∧ out.length - i ≤ gas ∧ ∃ z2 : Since z.wd, wr = z2.wd)
    case atStart => exact ⟨0, rfl, Nat.zero_le _, by omega, ⟨⟨_, Below.refl _ _⟩, rfl⟩⟩
    case round =>
      obtain ⟨i, rfl, hi, hg, ⟨z2, rfl⟩⟩ := hrel
      by_cases hlt : i < out.length
      · obtain ⟨g1, f1, rfl, r1⟩ := (HV.out.1.of (w' := z2.wd) (by (repeat (first | (with_reducible exact SinceOf.refl _) | (with_reducible assumption) | (with_reducible refine SinceOf.alloc ?_ _) | (with_reducible refine SinceOf.drew ?_) | (with_reducible refine SinceOf.drewN ?_ _) | (with_reducible refine SinceOf.later ?_ _) | (with_reducible refine SinceOf.further ?_ _) | (with_reducible refine SinceOf.setCell ?_ (by first | exact Nat.le_refl _ | (simp; done) | omega | (simp; omega)) _))))).at_ (by omega)
        obtain ⟨g2, f2, rfl, r2⟩ := (HV.out.2.1.of (w' := z2.wd) (by (repeat (first | (with_reducible exact SinceOf.refl _) | (with_reducible assumption) | (with_reducible refine SinceOf.alloc ?_ _) | (with_reducible refine SinceOf.drew ?_) | (with_reducible refine SinceOf.drewN ?_ _) | (with_reducible refine SinceOf.later ?_ _) | (with_reducible refine SinceOf.further ?_ _) | (with_reducible refine SinceOf.setCell ?_ (by first | exact Nat.le_refl _ | (simp; done) | omega | (simp; omega)) _))))).at_ (by omega)
        have o1 := r1.there
        have o2 := r2.there
        have a0 := r1.v0 i hlt
        have a1 := r1.v1 i hlt
        have e0 := r2.v0 i hlt
        have e1 := r2.v1 i hlt
        generalize out[i] = q at a0 a1 e0 e1
        obtain ⟨qx, qy⟩ := q
        simp only at a0 a1 e0 e1
        clear r1 r2
        go_wp2_with fail
        go_region
        go_wp2_with fail
        go_roundg (out.length - (i + 1))
        case measure => omega
        case rel => exact ⟨i + 1, by go_num, hlt, Nat.le_refl _, ⟨⟨_, z2.below.drew⟩, rfl⟩⟩
      · have hil : i = out.length := by omega
        subst hil
        clear hi hg hlt
        go_wp2_with fail
        refine (first_any A c X lx ly hx hy _ (H.out.of (by (repeat (first | (with_reducible exact SinceOf.refl _) | (with_reducible assumption) | (with_reducible refine SinceOf.alloc ?_ _) | (with_reducible refine SinceOf.drew ?_) | (with_reducible refine SinceOf.drewN ?_ _) | (with_reducible refine SinceOf.later ?_ _) | (with_reducible refine SinceOf.further ?_ _) | (with_reducible refine SinceOf.setCell ?_ (by first | exact Nat.le_refl _ | (simp; done) | omega | (simp; omega)) _))))) HS.out.1 HS.out.2).mono ?_
        rintro e _ ⟨x, y, b, rfl, hf1, ⟨y1, rfl⟩⟩
        go_wp2_with fail
        refine (refFirst_any A c X lx ly hx hy _ (H.out.of (by (repeat (first | (with_reducible exact SinceOf.refl _) | (with_reducible assumption) | (with_reducible refine SinceOf.alloc ?_ _) | (with_reducible refine SinceOf.drew ?_) | (with_reducible refine SinceOf.drewN ?_ _) | (with_reducible refine SinceOf.later ?_ _) | (with_reducible refine SinceOf.further ?_ _) | (with_reducible refine SinceOf.setCell ?_ (by first | exact Nat.le_refl _ | (simp; done) | omega | (simp; omega)) _))))) HS.out.1).mono ?_
        rintro e _ ⟨x', y', b', rfl, hf2, ⟨y2, rfl⟩⟩
        obtain ⟨hxy, rfl⟩ := Prod.mk.inj (hf1.unique hf2)
        obtain ⟨rfl, rfl⟩ := Prod.mk.inj hxy
        clear hf1 hf2 hxy
        have qe : eqv x y x y = true := by simp [eqv]
        go_wp2_with fail
        go_region_held3 (fun w' => (w'.cell? ⟨w.heap.size, 0, none⟩ = some (.int .i64 lx) ∧ w'.cell? ⟨w.heap.size, 1, none⟩ = some (.int .i64 ly) ∧ w'.cell? ⟨w.heap.size, 2, none⟩ = some (.int .i64 hx) ∧ w'.cell? ⟨w.heap.size, 3, none⟩ = some (.int .i64 hy)) ∧ w'.cell? ⟨y1.wd.heap.size, 0, none⟩ = some (.int .i64 x) ∧ w'.cell? ⟨y1.wd.heap.size, 1, none⟩ = some (.int .i64 y) ∧ w'.cell? ⟨y2.wd.heap.size, 0, none⟩ = some (.int .i64 x) ∧ w'.cell? ⟨y2.wd.heap.size, 1, none⟩ = some (.int .i64 y)) ((simp [go_sem, *]))
          (first | (go_at_call 38; refine (count_any A c X lx ly hx hy _ (H.out.of (by (repeat (first | (with_reducible exact SinceOf.refl _) | (with_reducible assumption) | (with_reducible refine SinceOf.alloc ?_ _) | (with_reducible refine SinceOf.drew ?_) | (with_reducible refine SinceOf.drewN ?_ _) | (with_reducible refine SinceOf.later ?_ _) | (with_reducible refine SinceOf.further ?_ _) | (with_reducible refine SinceOf.setCell ?_ (by first | exact Nat.le_refl _ | (simp; done) | omega | (simp; omega)) _))))) HS.out.1 HS.out.2).mono ?_; rintro e _ ⟨n1, rfl, hr1, ⟨z3, rfl⟩⟩) | (go_at_call 39; refine (refCount_any A c X lx ly hx hy _ (H.out.of (by (repeat (first | (with_reducible exact SinceOf.refl _) | (with_reducible assumption) | (with_reducible refine SinceOf.alloc ?_ _) | (with_reducible refine SinceOf.drew ?_) | (with_reducible refine SinceOf.drewN ?_ _) | (with_reducible refine SinceOf.later ?_ _) | (with_reducible refine SinceOf.further ?_ _) | (with_reducible refine SinceOf.setCell ?_ (by first | exact Nat.le_refl _ | (simp; done) | omega | (simp; omega)) _))))) HS.out.1).mono ?_; rintro e _ ⟨n2, rfl, hr2, ⟨z4, rfl⟩⟩))
        all_goals (obtain rfl := hr1.unique hr2; go_wp2_with fail; go_returns; exact ⟨by simp, by (repeat (first | (with_reducible exact SinceOf.refl _) | (with_reducible assumption) | (with_reducible refine SinceOf.alloc ?_ _) | (with_reducible refine SinceOf.drew ?_) | (with_reducible refine SinceOf.drewN ?_ _) | (with_reducible refine SinceOf.later ?_ _) | (with_reducible refine SinceOf.further ?_ _) | (with_reducible refine SinceOf.setCell ?_ (by first | exact Nat.le_refl _ | (simp; done) | omega | (simp; omega)) _)))⟩)
end Go.Proofs.Ytbienlhofkfdpaa
