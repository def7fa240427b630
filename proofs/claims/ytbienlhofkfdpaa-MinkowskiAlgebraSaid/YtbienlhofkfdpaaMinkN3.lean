/- Layer 15: the walk of MinkowskiAlgebra. -/
import Derived.Test.YtbienlhofkfdpaaMinkN2
import Derived.Test.YtbienlhofkfdpaaRings
namespace Go.Proofs.Ytbienlhofkfdpaa
open Go.RowKit Go.Sort
set_option linter.unusedVariables false
set_option linter.unusedSimpArgs false
attribute [local go_sem ↓] Go.wp_at_zero Go.wp_at_succ

def sl (x : RgR) : Value := .slice x.A x.xs.length x.c
set_option maxRecDepth 100000 in
set_option maxHeartbeats 16000000 in
theorem minkowskiAlgebra_any (X Y Z : RgR) (vx vy : Int) (w : World) (hX : IsRing w X) (hY : IsRing w Y) (hZ : IsRing w Z) : Yields Try.prog 7 #[.agg #[.slice X.A X.xs.length X.c, .slice Y.A Y.xs.length Y.c, .slice Z.A Z.xs.length Z.c], vv vx vy] w (.bool true) := by
  apply Yields.ret
  have H := Lib.hid (And.intro hX (And.intro hY hZ))
  clear hX hY hZ
  obtain ⟨R, hR0, hR1, hR2⟩ : ∃ R : Nat → RgR, R 0 = X ∧ R 1 = Y ∧ R 2 = Z := ⟨fun i => if i = 0 then X else if i = 1 then Y else Z, rfl, rfl, rfl⟩
  have hRi : ∀ i, i < 3 → IsRing w (R i) := fun i hi => by
    obtain rfl | rfl | rfl : i = 0 ∨ i = 1 ∨ i = 2 := by omega
    · rw [hR0]; exact H.out.1
    · rw [hR1]; exact H.out.2.1
    · rw [hR2]; exact H.out.2.2
  have HR := Lib.hid (And.intro hRi (And.intro hR0 (And.intro hR1 hR2)))
  have WI := refWithin_any vx vy 1000
  obtain ⟨bw, hbw⟩ : ∃ b, b = withinB vx vy 1000 := ⟨_, rfl⟩
  rw [← hbw] at WI
  have HB := Lib.hid hbw
  clear hR0 hR1 hR2 hRi hbw
  go_enter Try.func7, Try.ntmps7
  go_wp2_with fail
  refine (awake15_any _).mono ?_
  rintro e _ ⟨rfl, x1, rfl⟩
  go_wp2_with fail
  have q0 : x1.wd.cell? ⟨w.heap.size, 0, none⟩ = some (.slice X.A X.xs.length X.c) := by simp [go_sem]
  have q1 : x1.wd.cell? ⟨w.heap.size, 1, none⟩ = some (.slice Y.A Y.xs.length Y.c) := by simp [go_sem]
  have q2 : x1.wd.cell? ⟨w.heap.size, 2, none⟩ = some (.slice Z.A Z.xs.length Z.c) := by simp [go_sem]
  have q3 : x1.wd.cell? ⟨w.heap.size + 1, 0, none⟩ = some (.int .i64 vx) := by simp [go_sem]
  have q4 : x1.wd.cell? ⟨w.heap.size + 1, 1, none⟩ = some (.int .i64 vy) := by simp [go_sem]
  have hO1 : Nonempty (Old x1.wd w.heap.size) := inferInstance
  have hO2 : Nonempty (Old x1.wd (w.heap.size + 1)) := ⟨⟨by have := x1.size; simp at this; omega⟩⟩
  obtain ⟨v, hv⟩ : SinceOf w x1.wd := by (repeat (first | (with_reducible exact SinceOf.refl _) | (with_reducible assumption) | (with_reducible refine SinceOf.alloc ?_ _) | (with_reducible refine SinceOf.drew ?_) | (with_reducible refine SinceOf.drewN ?_ _) | (with_reducible refine SinceOf.later ?_ _) | (with_reducible refine SinceOf.further ?_ _) | (with_reducible refine SinceOf.setCell ?_ (by first | exact Nat.le_refl _ | (simp; done) | omega | (simp; omega)) _)))
  rw [hv] at q0 q1 q2 q3 q4 hO1 hO2 ⊢
  clear hv x1
  have HQ := Lib.hid (And.intro q0 (And.intro q1 (And.intro q2 (And.intro q3 (And.intro q4 (And.intro hO1 hO2))))))
  clear q0 q1 q2 q3 q4 hO1 hO2
  go_loopg [5] 3 (fun gas s5 wr => ∃ i : Nat, i ≤ 3 ∧ 3 - i ≤ gas ∧ s5 = .int .i64 i ∧ SinceOf v.wd wr ∧ (∀ j, j < i → (R j).xs.length ≤ 20 ∧ Conv15 (R j).xs ∧ (∀ p ∈ (R j).xs, near 1000 p)) ∧ (0 < i → near 1000 (vx, vy)))
  case atStart => exact ⟨0, by omega, by omega, by go_num, by (repeat (first | (with_reducible exact SinceOf.refl _) | (with_reducible assumption) | (with_reducible refine SinceOf.alloc ?_ _) | (with_reducible refine SinceOf.drew ?_) | (with_reducible refine SinceOf.drewN ?_ _) | (with_reducible refine SinceOf.later ?_ _) | (with_reducible refine SinceOf.further ?_ _) | (with_reducible refine SinceOf.setCell ?_ (by first | exact Nat.le_refl _ | (simp; done) | omega | (simp; omega)) _))), fun j hj => absurd hj (by omega), fun h => absurd h (by omega)⟩
  case round =>
    obtain ⟨i, hi, hgas, rfl, ⟨z, rfl⟩, hok, hvw⟩ := hrel
    by_cases hlt : i < 3
    · have hcell : z.wd.cell? ⟨w.heap.size, i, none⟩ = some (.slice (R i).A (R i).xs.length (R i).c) := by
        have hO := HQ.out.2.2.2.2.2.1
        rw [Since.cell]
        obtain rfl | rfl | rfl : i = 0 ∨ i = 1 ∨ i = 2 := by omega
        · rw [HR.out.2.1]; exact HQ.out.1
        · rw [HR.out.2.2.1]; exact HQ.out.2.1
        · rw [HR.out.2.2.2]; exact HQ.out.2.2.1
      have q3 : z.wd.cell? ⟨w.heap.size + 1, 0, none⟩ = some (.int .i64 vx) := by
        have hO := HQ.out.2.2.2.2.2.2
        rw [Since.cell]; exact HQ.out.2.2.2.1
      have q4 : z.wd.cell? ⟨w.heap.size + 1, 1, none⟩ = some (.int .i64 vy) := by
        have hO := HQ.out.2.2.2.2.2.2
        rw [Since.cell]; exact HQ.out.2.2.2.2.1
      have hO1 : Nonempty (Old z.wd w.heap.size) := by have hO := HQ.out.2.2.2.2.2.1; infer_instance
      have hO2 : Nonempty (Old z.wd (w.heap.size + 1)) := by have hO := HQ.out.2.2.2.2.2.2; infer_instance
      have hx : IsRing z.wd (R i) := (HR.out.1 i hlt).of (SinceOf.trans ⟨v, rfl⟩ ⟨z, rfl⟩)
      obtain ⟨x, hxd⟩ : ∃ x, x = R i := ⟨_, rfl⟩
      rw [← hxd] at hcell hx
      have HX := Lib.hid (And.intro hxd (And.intro hok (And.intro hvw hx)))
      have F := few15_any x.A x.xs.length x.c
      have VA := fun W (hW : SinceOf z.wd W) => refValid_any x.A x.c x.xs W (hx.of hW).row hx.len
      have hi3 : (i : Int) < 3 := by omega
      clear hxd hok hvw hx
      by_cases ff : x.xs.length ≤ 20
      case neg =>
        rw [decide_eq_false ff] at F
        clear ff VA
        go_wp2_with fail
        refine (F _).calls.mono ?_
        rintro e _ ⟨rfl, x2, rfl⟩
        go_wp2_with fail
        go_returns
        exact ⟨rfl, SinceOf.trans ⟨v, rfl⟩ (by (repeat (first | (with_reducible exact SinceOf.refl _) | (with_reducible assumption) | (with_reducible refine SinceOf.alloc ?_ _) | (with_reducible refine SinceOf.drew ?_) | (with_reducible refine SinceOf.drewN ?_ _) | (with_reducible refine SinceOf.later ?_ _) | (with_reducible refine SinceOf.further ?_ _) | (with_reducible refine SinceOf.setCell ?_ (by first | exact Nat.le_refl _ | (simp; done) | omega | (simp; omega)) _))))⟩
      rw [decide_eq_true ff] at F
      cases hva : validB x.xs
      · rw [hva] at VA
        clear ff hva
        go_wp2_with fail
        refine (F _).calls.mono ?_
        rintro e _ ⟨rfl, x2, rfl⟩
        go_wp2_with fail
        refine (VA _ (by (repeat (first | (with_reducible exact SinceOf.refl _) | (with_reducible assumption) | (with_reducible refine SinceOf.alloc ?_ _) | (with_reducible refine SinceOf.drew ?_) | (with_reducible refine SinceOf.drewN ?_ _) | (with_reducible refine SinceOf.later ?_ _) | (with_reducible refine SinceOf.further ?_ _) | (with_reducible refine SinceOf.setCell ?_ (by first | exact Nat.le_refl _ | (simp; done) | omega | (simp; omega)) _))))).calls.mono ?_
        rintro e _ ⟨rfl, x3, rfl⟩
        go_wp2_with fail
        go_returns
        exact ⟨rfl, SinceOf.trans ⟨v, rfl⟩ (by (repeat (first | (with_reducible exact SinceOf.refl _) | (with_reducible assumption) | (with_reducible refine SinceOf.alloc ?_ _) | (with_reducible refine SinceOf.drew ?_) | (with_reducible refine SinceOf.drewN ?_ _) | (with_reducible refine SinceOf.later ?_ _) | (with_reducible refine SinceOf.further ?_ _) | (with_reducible refine SinceOf.setCell ?_ (by first | exact Nat.le_refl _ | (simp; done) | omega | (simp; omega)) _))))⟩
      rw [hva] at VA
      have HVA := Lib.hid (And.intro ff hva)
      clear hva
      cases bw
      · clear ff
        go_wp2_with fail
        refine (F _).calls.mono ?_
        rintro e _ ⟨rfl, x2, rfl⟩
        go_wp2_with fail
        refine (VA _ (by (repeat (first | (with_reducible exact SinceOf.refl _) | (with_reducible assumption) | (with_reducible refine SinceOf.alloc ?_ _) | (with_reducible refine SinceOf.drew ?_) | (with_reducible refine SinceOf.drewN ?_ _) | (with_reducible refine SinceOf.later ?_ _) | (with_reducible refine SinceOf.further ?_ _) | (with_reducible refine SinceOf.setCell ?_ (by first | exact Nat.le_refl _ | (simp; done) | omega | (simp; omega)) _))))).calls.mono ?_
        rintro e _ ⟨rfl, x3, rfl⟩
        go_wp2_with fail
        refine (WI _).calls.mono ?_
        rintro e _ ⟨rfl, x4, rfl⟩
        go_wp2_with fail
        go_returns
        exact ⟨rfl, SinceOf.trans ⟨v, rfl⟩ (by (repeat (first | (with_reducible exact SinceOf.refl _) | (with_reducible assumption) | (with_reducible refine SinceOf.alloc ?_ _) | (with_reducible refine SinceOf.drew ?_) | (with_reducible refine SinceOf.drewN ?_ _) | (with_reducible refine SinceOf.later ?_ _) | (with_reducible refine SinceOf.further ?_ _) | (with_reducible refine SinceOf.setCell ?_ (by first | exact Nat.le_refl _ | (simp; done) | omega | (simp; omega)) _))))⟩
      go_wp2_with fail
      refine (F _).calls.mono ?_
      rintro e _ ⟨rfl, x2, rfl⟩
      go_wp2_with fail
      refine (VA _ (by (repeat (first | (with_reducible exact SinceOf.refl _) | (with_reducible assumption) | (with_reducible refine SinceOf.alloc ?_ _) | (with_reducible refine SinceOf.drew ?_) | (with_reducible refine SinceOf.drewN ?_ _) | (with_reducible refine SinceOf.later ?_ _) | (with_reducible refine SinceOf.further ?_ _) | (with_reducible refine SinceOf.setCell ?_ (by first | exact Nat.le_refl _ | (simp; done) | omega | (simp; omega)) _))))).calls.mono ?_
      rintro e _ ⟨rfl, x3, rfl⟩
      go_wp2_with fail
      refine (WI _).calls.mono ?_
      rintro e _ ⟨rfl, x4, rfl⟩
      clear F VA
      have hcell4 : x4.wd.cell? ⟨w.heap.size, i, none⟩ = some (.slice x.A x.xs.length x.c) := by simp [go_sem, hcell]
      obtain ⟨y, hy⟩ : SinceOf z.wd x4.wd := by (repeat (first | (with_reducible exact SinceOf.refl _) | (with_reducible assumption) | (with_reducible refine SinceOf.alloc ?_ _) | (with_reducible refine SinceOf.drew ?_) | (with_reducible refine SinceOf.drewN ?_ _) | (with_reducible refine SinceOf.later ?_ _) | (with_reducible refine SinceOf.further ?_ _) | (with_reducible refine SinceOf.setCell ?_ (by first | exact Nat.le_refl _ | (simp; done) | omega | (simp; omega)) _)))
      have hO1' : Nonempty (Old y.wd w.heap.size) := inferInstance
      rw [hy] at hcell4 ⊢
      clear hy hcell q3 q4 x4 x3 x2
      obtain ⟨xA, hxA⟩ : ∃ a, a = x.A := ⟨_, rfl⟩
      rw [← hxA] at hcell4 ⊢
      have HXA := Lib.hid hxA
      clear hxA
      go_wp2_with fail
      go_loopg [6] x.xs.length (fun gas s6 wr => ∃ k : Nat, k ≤ x.xs.length ∧ x.xs.length - k ≤ gas ∧ s6 = .int .i64 k ∧ SinceOf y.wd wr ∧ ∀ p ∈ x.xs.take k, near 1000 p)
      case atStart => exact ⟨0, by omega, by omega, by go_num, by (repeat (first | (with_reducible exact SinceOf.refl _) | (with_reducible assumption) | (with_reducible refine SinceOf.alloc ?_ _) | (with_reducible refine SinceOf.drew ?_) | (with_reducible refine SinceOf.drewN ?_ _) | (with_reducible refine SinceOf.later ?_ _) | (with_reducible refine SinceOf.further ?_ _) | (with_reducible refine SinceOf.setCell ?_ (by first | exact Nat.le_refl _ | (simp; done) | omega | (simp; omega)) _))), fun p hp => by rw [List.take_zero] at hp; cases hp⟩
      case round =>
        obtain ⟨k, hk, hgas2, rfl, ⟨u, rfl⟩, hnr⟩ := hrel
        have hcu : u.wd.cell? ⟨w.heap.size, i, none⟩ = some (.slice xA x.xs.length x.c) := by rw [Since.cell]; exact hcell4
        have hOu : Nonempty (Old u.wd w.heap.size) := inferInstance
        by_cases hlt2 : k < x.xs.length
        · have hr0 : IsVecs u.wd xA x.c x.xs := by rw [HXA.out]; exact HX.out.2.2.2.row.of (SinceOf.trans ⟨y, rfl⟩ ⟨u, rfl⟩)
          obtain ⟨g, off, rfl, hr⟩ := hr0.at_ (by omega)
          have hO := hr.there
          have p0 := hr.v0 k hlt2
          have p1 := hr.v1 k hlt2
          have hnx : x.xs.take (k + 1) = x.xs.take k ++ [x.xs[k]] := List.take_succ_eq_append_getElem hlt2
          have W1 := refWithin_any x.xs[k].1 x.xs[k].2 1000
          obtain ⟨bp, hbp⟩ : ∃ b, b = withinB x.xs[k].1 x.xs[k].2 1000 := ⟨_, rfl⟩
          rw [← hbp] at W1
          have HP := Lib.hid (And.intro hnr (And.intro hnx hbp))
          clear hnr hnx hbp hr hr0
          generalize x.xs[k].1 = px at p0 W1
          generalize x.xs[k].2 = py at p1 W1
          cases bp
          · go_wp2_with fail
            refine (W1 _).calls.mono ?_
            rintro e _ ⟨rfl, x5, rfl⟩
            go_wp2_with fail
            go_returns
            exact ⟨rfl, SinceOf.trans ⟨v, rfl⟩ (SinceOf.trans ⟨z, rfl⟩ (SinceOf.trans ⟨y, rfl⟩ (by (repeat (first | (with_reducible exact SinceOf.refl _) | (with_reducible assumption) | (with_reducible refine SinceOf.alloc ?_ _) | (with_reducible refine SinceOf.drew ?_) | (with_reducible refine SinceOf.drewN ?_ _) | (with_reducible refine SinceOf.later ?_ _) | (with_reducible refine SinceOf.further ?_ _) | (with_reducible refine SinceOf.setCell ?_ (by first | exact Nat.le_refl _ | (simp; done) | omega | (simp; omega)) _))))))⟩
          · go_wp2_with fail
            refine (W1 _).calls.mono ?_
            rintro e _ ⟨rfl, x5, rfl⟩
            go_wp2_with fail
            go_roundg (x.xs.length - (k + 1))
            case measure => omega
            case rel =>
              refine ⟨k + 1, hlt2, Nat.le_refl _, by go_num, by (repeat (first | (with_reducible exact SinceOf.refl _) | (with_reducible assumption) | (with_reducible refine SinceOf.alloc ?_ _) | (with_reducible refine SinceOf.drew ?_) | (with_reducible refine SinceOf.drewN ?_ _) | (with_reducible refine SinceOf.later ?_ _) | (with_reducible refine SinceOf.further ?_ _) | (with_reducible refine SinceOf.setCell ?_ (by first | exact Nat.le_refl _ | (simp; done) | omega | (simp; omega)) _))), fun p hp => ?_⟩
              rw [HP.out.2.1] at hp
              rcases List.mem_append.1 hp with hp | hp
              · exact HP.out.1 p hp
              · rw [List.mem_singleton] at hp
                rw [hp]
                exact (near_within (by omega)).1 HP.out.2.2.symm
        · obtain rfl : k = x.xs.length := by omega
          rw [List.take_length] at hnr
          have HN := Lib.hid hnr
          clear hnr
          go_wp2_with fail
          go_roundg (3 - (i + 1))
          case measure => omega
          case rel =>
            refine ⟨i + 1, by omega, Nat.le_refl _, by go_num, SinceOf.trans ⟨z, rfl⟩ (SinceOf.trans ⟨y, rfl⟩ (by (repeat (first | (with_reducible exact SinceOf.refl _) | (with_reducible assumption) | (with_reducible refine SinceOf.alloc ?_ _) | (with_reducible refine SinceOf.drew ?_) | (with_reducible refine SinceOf.drewN ?_ _) | (with_reducible refine SinceOf.later ?_ _) | (with_reducible refine SinceOf.further ?_ _) | (with_reducible refine SinceOf.setCell ?_ (by first | exact Nat.le_refl _ | (simp; done) | omega | (simp; omega)) _))))), fun j hj => ?_, fun _ => (near_within (by omega)).1 HB.out.symm⟩
            rcases Nat.lt_or_ge j i with c | c
            · exact HX.out.2.1 j c
            · obtain rfl : j = i := by omega
              rw [← HX.out.1]
              exact ⟨HVA.out.1, validB_iff.1 HVA.out.2, HN.out⟩
    · obtain rfl : i = 3 := by omega
      have nv := hvw (by omega)
      obtain ⟨l0, c0, n0⟩ := hok 0 (by omega)
      obtain ⟨l1, c1, n1⟩ := hok 1 (by omega)
      obtain ⟨l2, c2, n2⟩ := hok 2 (by omega)
      rw [HR.out.2.1] at l0 c0 n0
      rw [HR.out.2.2.1] at l1 c1 n1
      rw [HR.out.2.2.2] at l2 c2 n2
      have rx := H.out.1.of (w' := z.wd) (SinceOf.trans ⟨v, rfl⟩ ⟨z, rfl⟩)
      have ry := H.out.2.1.of (w' := z.wd) (SinceOf.trans ⟨v, rfl⟩ ⟨z, rfl⟩)
      have rz := H.out.2.2.of (w' := z.wd) (SinceOf.trans ⟨v, rfl⟩ ⟨z, rfl⟩)
      have hO1 : Nonempty (Old z.wd w.heap.size) := by have hO := HQ.out.2.2.2.2.2.1; infer_instance
      have hO2 : Nonempty (Old z.wd (w.heap.size + 1)) := by have hO := HQ.out.2.2.2.2.2.2; infer_instance
      have q0 : z.wd.cell? ⟨w.heap.size, 0, none⟩ = some (.slice X.A X.xs.length X.c) := by have hO := HQ.out.2.2.2.2.2.1; rw [Since.cell]; exact HQ.out.1
      have q1 : z.wd.cell? ⟨w.heap.size, 1, none⟩ = some (.slice Y.A Y.xs.length Y.c) := by have hO := HQ.out.2.2.2.2.2.1; rw [Since.cell]; exact HQ.out.2.1
      have q2 : z.wd.cell? ⟨w.heap.size, 2, none⟩ = some (.slice Z.A Z.xs.length Z.c) := by have hO := HQ.out.2.2.2.2.2.1; rw [Since.cell]; exact HQ.out.2.2.1
      have q3 : z.wd.cell? ⟨w.heap.size + 1, 0, none⟩ = some (.int .i64 vx) := by have hO := HQ.out.2.2.2.2.2.2; rw [Since.cell]; exact HQ.out.2.2.2.1
      have q4 : z.wd.cell? ⟨w.heap.size + 1, 1, none⟩ = some (.int .i64 vy) := by have hO := HQ.out.2.2.2.2.2.2; rw [Since.cell]; exact HQ.out.2.2.2.2.1
      have HZ := Lib.hid (And.intro rx (And.intro ry rz))
      have HC := Lib.hid (And.intro (And.intro l0 (And.intro c0 n0)) (And.intro (And.intro l1 (And.intro c1 n1)) (And.intro (And.intro l2 (And.intro c2 n2)) nv)))
      clear hok hvw l0 c0 n0 l1 c1 n1 l2 c2 n2 nv rx ry rz WI HR HQ H HB
      have SU1 := fun W (hW : SinceOf z.wd W) => sum_any X.A Y.A X.c Y.c (X.xs) (Y.xs) W (HZ.out.1.of (SinceOf.trans (by (repeat (first | (with_reducible exact SinceOf.refl _) | (with_reducible assumption) | (with_reducible refine SinceOf.alloc ?_ _) | (with_reducible refine SinceOf.drew ?_) | (with_reducible refine SinceOf.drewN ?_ _) | (with_reducible refine SinceOf.later ?_ _) | (with_reducible refine SinceOf.further ?_ _) | (with_reducible refine SinceOf.setCell ?_ (by first | exact Nat.le_refl _ | (simp; done) | omega | (simp; omega)) _)))) hW)).row (HZ.out.2.1.of (SinceOf.trans (by (repeat (first | (with_reducible exact SinceOf.refl _) | (with_reducible assumption) | (with_reducible refine SinceOf.alloc ?_ _) | (with_reducible refine SinceOf.drew ?_) | (with_reducible refine SinceOf.drewN ?_ _) | (with_reducible refine SinceOf.later ?_ _) | (with_reducible refine SinceOf.further ?_ _) | (with_reducible refine SinceOf.setCell ?_ (by first | exact Nat.le_refl _ | (simp; done) | omega | (simp; omega)) _)))) hW)).row HZ.out.1.cap HZ.out.2.1.cap HZ.out.1.len HZ.out.2.1.len
      go_wp2_with fail
      refine (SU1 _ (by (repeat (first | (with_reducible exact SinceOf.refl _) | (with_reducible assumption) | (with_reducible refine SinceOf.alloc ?_ _) | (with_reducible refine SinceOf.drew ?_) | (with_reducible refine SinceOf.drewN ?_ _) | (with_reducible refine SinceOf.later ?_ _) | (with_reducible refine SinceOf.further ?_ _) | (with_reducible refine SinceOf.setCell ?_ (by first | exact Nat.le_refl _ | (simp; done) | omega | (simp; omega)) _))))).mono ?_
      rintro e _ ⟨A1, c1, o1, rfl, hs1, hv1, hc1, -, ⟨u1, rfl⟩⟩
      have E1 := Lib.hid (sum_ok (m := 1000) (n := 1000) (by omega) HC.out.1.2.1 HC.out.2.1.2.1 HC.out.1.2.2 HC.out.2.1.2.2 (by have := HC.out.1.1; have := HC.out.2.1.1; omega) hs1)
      have G1 := Lib.hid (And.intro hv1 (And.intro hc1 (show o1.1.length < 4611686018427387904 by have := E1.out.2.2.1.2.1; omega)))
      clear SU1 hs1 hv1 hc1
      obtain ⟨r1, hr1⟩ : ∃ e, e = o1.2 := ⟨_, rfl⟩
      rw [← hr1]
      have gr1 : (r1 != 0) = false := by rw [hr1, E1.out.1]; rfl
      have ge1 : (r1 == 0) = true := by rw [hr1, E1.out.1]; rfl
      clear hr1
      have SU2 := fun W (hW : SinceOf u1.wd W) => sum_any Y.A X.A Y.c X.c (Y.xs) (X.xs) W (HZ.out.2.1.of (SinceOf.trans (by (repeat (first | (with_reducible exact SinceOf.refl _) | (with_reducible assumption) | (with_reducible refine SinceOf.alloc ?_ _) | (with_reducible refine SinceOf.drew ?_) | (with_reducible refine SinceOf.drewN ?_ _) | (with_reducible refine SinceOf.later ?_ _) | (with_reducible refine SinceOf.further ?_ _) | (with_reducible refine SinceOf.setCell ?_ (by first | exact Nat.le_refl _ | (simp; done) | omega | (simp; omega)) _)))) hW)).row (HZ.out.1.of (SinceOf.trans (by (repeat (first | (with_reducible exact SinceOf.refl _) | (with_reducible assumption) | (with_reducible refine SinceOf.alloc ?_ _) | (with_reducible refine SinceOf.drew ?_) | (with_reducible refine SinceOf.drewN ?_ _) | (with_reducible refine SinceOf.later ?_ _) | (with_reducible refine SinceOf.further ?_ _) | (with_reducible refine SinceOf.setCell ?_ (by first | exact Nat.le_refl _ | (simp; done) | omega | (simp; omega)) _)))) hW)).row HZ.out.2.1.cap HZ.out.1.cap HZ.out.2.1.len HZ.out.1.len
      go_wp2_with fail
      refine (SU2 _ (by (repeat (first | (with_reducible exact SinceOf.refl _) | (with_reducible assumption) | (with_reducible refine SinceOf.alloc ?_ _) | (with_reducible refine SinceOf.drew ?_) | (with_reducible refine SinceOf.drewN ?_ _) | (with_reducible refine SinceOf.later ?_ _) | (with_reducible refine SinceOf.further ?_ _) | (with_reducible refine SinceOf.setCell ?_ (by first | exact Nat.le_refl _ | (simp; done) | omega | (simp; omega)) _))))).mono ?_
      rintro e _ ⟨A2, c2, o2, rfl, hs2, hv2, hc2, -, ⟨u2, rfl⟩⟩
      have E2 := Lib.hid (sum_ok (m := 1000) (n := 1000) (by omega) HC.out.2.1.2.1 HC.out.1.2.1 HC.out.2.1.2.2 HC.out.1.2.2 (by have := HC.out.1.1; have := HC.out.2.1.1; omega) hs2)
      have G2 := Lib.hid (And.intro hv2 (And.intro hc2 (show o2.1.length < 4611686018427387904 by have := E2.out.2.2.1.2.1; omega)))
      clear SU2 hs2 hv2 hc2
      obtain ⟨r2, hr2⟩ : ∃ e, e = o2.2 := ⟨_, rfl⟩
      rw [← hr2]
      have gr2 : (r2 != 0) = false := by rw [hr2, E2.out.1]; rfl
      have ge2 : (r2 == 0) = true := by rw [hr2, E2.out.1]; rfl
      clear hr2
      have SU3 := fun W (hW : SinceOf u2.wd W) => sum_any Y.A Z.A Y.c Z.c (Y.xs) (Z.xs) W (HZ.out.2.1.of (SinceOf.trans (by (repeat (first | (with_reducible exact SinceOf.refl _) | (with_reducible assumption) | (with_reducible refine SinceOf.alloc ?_ _) | (with_reducible refine SinceOf.drew ?_) | (with_reducible refine SinceOf.drewN ?_ _) | (with_reducible refine SinceOf.later ?_ _) | (with_reducible refine SinceOf.further ?_ _) | (with_reducible refine SinceOf.setCell ?_ (by first | exact Nat.le_refl _ | (simp; done) | omega | (simp; omega)) _)))) hW)).row (HZ.out.2.2.of (SinceOf.trans (by (repeat (first | (with_reducible exact SinceOf.refl _) | (with_reducible assumption) | (with_reducible refine SinceOf.alloc ?_ _) | (with_reducible refine SinceOf.drew ?_) | (with_reducible refine SinceOf.drewN ?_ _) | (with_reducible refine SinceOf.later ?_ _) | (with_reducible refine SinceOf.further ?_ _) | (with_reducible refine SinceOf.setCell ?_ (by first | exact Nat.le_refl _ | (simp; done) | omega | (simp; omega)) _)))) hW)).row HZ.out.2.1.cap HZ.out.2.2.cap HZ.out.2.1.len HZ.out.2.2.len
      go_wp2_with fail
      refine (SU3 _ (by (repeat (first | (with_reducible exact SinceOf.refl _) | (with_reducible assumption) | (with_reducible refine SinceOf.alloc ?_ _) | (with_reducible refine SinceOf.drew ?_) | (with_reducible refine SinceOf.drewN ?_ _) | (with_reducible refine SinceOf.later ?_ _) | (with_reducible refine SinceOf.further ?_ _) | (with_reducible refine SinceOf.setCell ?_ (by first | exact Nat.le_refl _ | (simp; done) | omega | (simp; omega)) _))))).mono ?_
      rintro e _ ⟨A3, c3, o3, rfl, hs3, hv3, hc3, -, ⟨u3, rfl⟩⟩
      have E3 := Lib.hid (sum_ok (m := 1000) (n := 1000) (by omega) HC.out.2.1.2.1 HC.out.2.2.1.2.1 HC.out.2.1.2.2 HC.out.2.2.1.2.2 (by have := HC.out.2.1.1; have := HC.out.2.2.1.1; omega) hs3)
      have G3 := Lib.hid (And.intro hv3 (And.intro hc3 (show o3.1.length < 4611686018427387904 by have := E3.out.2.2.1.2.1; omega)))
      clear SU3 hs3 hv3 hc3
      obtain ⟨r3, hr3⟩ : ∃ e, e = o3.2 := ⟨_, rfl⟩
      rw [← hr3]
      have gr3 : (r3 != 0) = false := by rw [hr3, E3.out.1]; rfl
      have ge3 : (r3 == 0) = true := by rw [hr3, E3.out.1]; rfl
      clear hr3
      have SU4 := fun W (hW : SinceOf u3.wd W) => sum_any A1 Z.A c1 Z.c (o1.1) (Z.xs) W (G1.out.1.of (SinceOf.trans (by (repeat (first | (with_reducible exact SinceOf.refl _) | (with_reducible assumption) | (with_reducible refine SinceOf.alloc ?_ _) | (with_reducible refine SinceOf.drew ?_) | (with_reducible refine SinceOf.drewN ?_ _) | (with_reducible refine SinceOf.later ?_ _) | (with_reducible refine SinceOf.further ?_ _) | (with_reducible refine SinceOf.setCell ?_ (by first | exact Nat.le_refl _ | (simp; done) | omega | (simp; omega)) _)))) hW)) (HZ.out.2.2.of (SinceOf.trans (by (repeat (first | (with_reducible exact SinceOf.refl _) | (with_reducible assumption) | (with_reducible refine SinceOf.alloc ?_ _) | (with_reducible refine SinceOf.drew ?_) | (with_reducible refine SinceOf.drewN ?_ _) | (with_reducible refine SinceOf.later ?_ _) | (with_reducible refine SinceOf.further ?_ _) | (with_reducible refine SinceOf.setCell ?_ (by first | exact Nat.le_refl _ | (simp; done) | omega | (simp; omega)) _)))) hW)).row G1.out.2.1 HZ.out.2.2.cap G1.out.2.2 HZ.out.2.2.len
      go_wp2_with fail
      refine (SU4 _ (by (repeat (first | (with_reducible exact SinceOf.refl _) | (with_reducible assumption) | (with_reducible refine SinceOf.alloc ?_ _) | (with_reducible refine SinceOf.drew ?_) | (with_reducible refine SinceOf.drewN ?_ _) | (with_reducible refine SinceOf.later ?_ _) | (with_reducible refine SinceOf.further ?_ _) | (with_reducible refine SinceOf.setCell ?_ (by first | exact Nat.le_refl _ | (simp; done) | omega | (simp; omega)) _))))).mono ?_
      rintro e _ ⟨A4, c4, o4, rfl, hs4, hv4, hc4, -, ⟨u4, rfl⟩⟩
      have E4 := Lib.hid (sum_ok (m := 2000) (n := 1000) (by omega) E1.out.2.2.1 HC.out.2.2.1.2.1 E1.out.2.2.2.1 HC.out.2.2.1.2.2 (by have := E1.out.2.2.2.2; have := HC.out.1.1; have := HC.out.2.1.1; have := HC.out.2.2.1.1; omega) hs4)
      have G4 := Lib.hid (And.intro hv4 (And.intro hc4 (show o4.1.length < 4611686018427387904 by have := E4.out.2.2.1.2.1; omega)))
      clear SU4 hs4 hv4 hc4
      obtain ⟨r4, hr4⟩ : ∃ e, e = o4.2 := ⟨_, rfl⟩
      rw [← hr4]
      have gr4 : (r4 != 0) = false := by rw [hr4, E4.out.1]; rfl
      have ge4 : (r4 == 0) = true := by rw [hr4, E4.out.1]; rfl
      clear hr4
      have SU5 := fun W (hW : SinceOf u4.wd W) => sum_any X.A A3 X.c c3 (X.xs) (o3.1) W (HZ.out.1.of (SinceOf.trans (by (repeat (first | (with_reducible exact SinceOf.refl _) | (with_reducible assumption) | (with_reducible refine SinceOf.alloc ?_ _) | (with_reducible refine SinceOf.drew ?_) | (with_reducible refine SinceOf.drewN ?_ _) | (with_reducible refine SinceOf.later ?_ _) | (with_reducible refine SinceOf.further ?_ _) | (with_reducible refine SinceOf.setCell ?_ (by first | exact Nat.le_refl _ | (simp; done) | omega | (simp; omega)) _)))) hW)).row (G3.out.1.of (SinceOf.trans (by (repeat (first | (with_reducible exact SinceOf.refl _) | (with_reducible assumption) | (with_reducible refine SinceOf.alloc ?_ _) | (with_reducible refine SinceOf.drew ?_) | (with_reducible refine SinceOf.drewN ?_ _) | (with_reducible refine SinceOf.later ?_ _) | (with_reducible refine SinceOf.further ?_ _) | (with_reducible refine SinceOf.setCell ?_ (by first | exact Nat.le_refl _ | (simp; done) | omega | (simp; omega)) _)))) hW)) HZ.out.1.cap G3.out.2.1 HZ.out.1.len G3.out.2.2
      go_wp2_with fail
      refine (SU5 _ (by (repeat (first | (with_reducible exact SinceOf.refl _) | (with_reducible assumption) | (with_reducible refine SinceOf.alloc ?_ _) | (with_reducible refine SinceOf.drew ?_) | (with_reducible refine SinceOf.drewN ?_ _) | (with_reducible refine SinceOf.later ?_ _) | (with_reducible refine SinceOf.further ?_ _) | (with_reducible refine SinceOf.setCell ?_ (by first | exact Nat.le_refl _ | (simp; done) | omega | (simp; omega)) _))))).mono ?_
      rintro e _ ⟨A5, c5, o5, rfl, hs5, hv5, hc5, -, ⟨u5, rfl⟩⟩
      have E5 := Lib.hid (sum_ok (m := 1000) (n := 2000) (by omega) HC.out.1.2.1 E3.out.2.2.1 HC.out.1.2.2 E3.out.2.2.2.1 (by have := E3.out.2.2.2.2; have := HC.out.1.1; have := HC.out.2.1.1; have := HC.out.2.2.1.1; omega) hs5)
      have G5 := Lib.hid (And.intro hv5 (And.intro hc5 (show o5.1.length < 4611686018427387904 by have := E5.out.2.2.1.2.1; omega)))
      clear SU5 hs5 hv5 hc5
      obtain ⟨r5, hr5⟩ : ∃ e, e = o5.2 := ⟨_, rfl⟩
      rw [← hr5]
      have gr5 : (r5 != 0) = false := by rw [hr5, E5.out.1]; rfl
      have ge5 : (r5 == 0) = true := by rw [hr5, E5.out.1]; rfl
      clear hr5
      have e12 : o1.1 = o2.1 := E1.out.2.1.swap.unique E2.out.2.1
      have n20 : ∀ {m : Int}, m ≤ 8000 → ∀ {p : Pt}, near m p → near 20000 p := fun h p hp => near_mono (by omega) hp
      have e45 : o4.1 = o5.1 := by
        have p1 := sums_assoc (sums_hull1 (m := 2000) (n := 1000) (by omega) E1.out.2.1 (fun q hq => by obtain ⟨a, ha, b, hb, rfl⟩ := mem_sums2.1 hq; have t1 := HC.out.1.2.2 a ha; have t2 := HC.out.2.1.2.2 b hb; unfold near addP at *; simp only; omega) HC.out.2.2.1.2.2 E4.out.2.1)
        have p2 := sums_hull2 (m := 2000) (n := 1000) (by omega) E3.out.2.1 (fun q hq => by obtain ⟨a, ha, b, hb, rfl⟩ := mem_sums2.1 hq; have t1 := HC.out.2.1.2.2 a ha; have t2 := HC.out.2.2.1.2.2 b hb; unfold near addP at *; simp only; omega) HC.out.1.2.2 E5.out.2.1
        exact p1.unique p2
      have SA := fun W (hW : SinceOf u5.wd W) => same08_any A1 A2 c1 c2 o1.1 o2.1 W (G1.out.1.of (SinceOf.trans (by (repeat (first | (with_reducible exact SinceOf.refl _) | (with_reducible assumption) | (with_reducible refine SinceOf.alloc ?_ _) | (with_reducible refine SinceOf.drew ?_) | (with_reducible refine SinceOf.drewN ?_ _) | (with_reducible refine SinceOf.later ?_ _) | (with_reducible refine SinceOf.further ?_ _) | (with_reducible refine SinceOf.setCell ?_ (by first | exact Nat.le_refl _ | (simp; done) | omega | (simp; omega)) _)))) hW)) (G2.out.1.of (SinceOf.trans (by (repeat (first | (with_reducible exact SinceOf.refl _) | (with_reducible assumption) | (with_reducible refine SinceOf.alloc ?_ _) | (with_reducible refine SinceOf.drew ?_) | (with_reducible refine SinceOf.drewN ?_ _) | (with_reducible refine SinceOf.later ?_ _) | (with_reducible refine SinceOf.further ?_ _) | (with_reducible refine SinceOf.setCell ?_ (by first | exact Nat.le_refl _ | (simp; done) | omega | (simp; omega)) _)))) hW)) G1.out.2.2 G2.out.2.2
      rw [decide_eq_true e12] at SA
      have SB := fun W (hW : SinceOf u5.wd W) => same08_any A4 A5 c4 c5 o4.1 o5.1 W (G4.out.1.of (SinceOf.trans (by (repeat (first | (with_reducible exact SinceOf.refl _) | (with_reducible assumption) | (with_reducible refine SinceOf.alloc ?_ _) | (with_reducible refine SinceOf.drew ?_) | (with_reducible refine SinceOf.drewN ?_ _) | (with_reducible refine SinceOf.later ?_ _) | (with_reducible refine SinceOf.further ?_ _) | (with_reducible refine SinceOf.setCell ?_ (by first | exact Nat.le_refl _ | (simp; done) | omega | (simp; omega)) _)))) hW)) (G5.out.1.of (SinceOf.trans (by (repeat (first | (with_reducible exact SinceOf.refl _) | (with_reducible assumption) | (with_reducible refine SinceOf.alloc ?_ _) | (with_reducible refine SinceOf.drew ?_) | (with_reducible refine SinceOf.drewN ?_ _) | (with_reducible refine SinceOf.later ?_ _) | (with_reducible refine SinceOf.further ?_ _) | (with_reducible refine SinceOf.setCell ?_ (by first | exact Nat.le_refl _ | (simp; done) | omega | (simp; omega)) _)))) hW)) G4.out.2.2 G5.out.2.2
      rw [decide_eq_true e45] at SB
      clear e12 e45
      go_wp2_with fail
      refine (SA _ (by (repeat (first | (with_reducible exact SinceOf.refl _) | (with_reducible assumption) | (with_reducible refine SinceOf.alloc ?_ _) | (with_reducible refine SinceOf.drew ?_) | (with_reducible refine SinceOf.drewN ?_ _) | (with_reducible refine SinceOf.later ?_ _) | (with_reducible refine SinceOf.further ?_ _) | (with_reducible refine SinceOf.setCell ?_ (by first | exact Nat.le_refl _ | (simp; done) | omega | (simp; omega)) _))))).calls.mono ?_
      rintro e _ ⟨rfl, y1, rfl⟩
      go_wp2_with fail
      refine (SB _ (by (repeat (first | (with_reducible exact SinceOf.refl _) | (with_reducible assumption) | (with_reducible refine SinceOf.alloc ?_ _) | (with_reducible refine SinceOf.drew ?_) | (with_reducible refine SinceOf.drewN ?_ _) | (with_reducible refine SinceOf.later ?_ _) | (with_reducible refine SinceOf.further ?_ _) | (with_reducible refine SinceOf.setCell ?_ (by first | exact Nat.le_refl _ | (simp; done) | omega | (simp; omega)) _))))).calls.mono ?_
      rintro e _ ⟨rfl, y2, rfl⟩
      clear SA SB
      have SU6 := fun W (hW : SinceOf y2.wd W) => negate_any X.A X.c (X.xs) W (HZ.out.1.of (SinceOf.trans (by (repeat (first | (with_reducible exact SinceOf.refl _) | (with_reducible assumption) | (with_reducible refine SinceOf.alloc ?_ _) | (with_reducible refine SinceOf.drew ?_) | (with_reducible refine SinceOf.drewN ?_ _) | (with_reducible refine SinceOf.later ?_ _) | (with_reducible refine SinceOf.further ?_ _) | (with_reducible refine SinceOf.setCell ?_ (by first | exact Nat.le_refl _ | (simp; done) | omega | (simp; omega)) _)))) hW)).row HZ.out.1.len
      go_wp2_with fail
      refine (SU6 _ (by (repeat (first | (with_reducible exact SinceOf.refl _) | (with_reducible assumption) | (with_reducible refine SinceOf.alloc ?_ _) | (with_reducible refine SinceOf.drew ?_) | (with_reducible refine SinceOf.drewN ?_ _) | (with_reducible refine SinceOf.later ?_ _) | (with_reducible refine SinceOf.further ?_ _) | (with_reducible refine SinceOf.setCell ?_ (by first | exact Nat.le_refl _ | (simp; done) | omega | (simp; omega)) _))))).mono ?_
      rintro e _ ⟨A6, c6, o6, rfl, hs6, hv6, hc6, -, ⟨u6, rfl⟩⟩
      have E6 := Lib.hid (NegV.ok (m := 1000) (by omega) HC.out.1.2.1 HC.out.1.2.2 hs6)
      have G6 := Lib.hid (And.intro hv6 (And.intro hc6 (show o6.1.length < 4611686018427387904 by have := E6.out.2.2.1.2.1; omega)))
      clear SU6 hs6 hv6 hc6
      obtain ⟨r6, hr6⟩ : ∃ e, e = o6.2 := ⟨_, rfl⟩
      rw [← hr6]
      have gr6 : (r6 != 0) = false := by rw [hr6, E6.out.1]; rfl
      have ge6 : (r6 == 0) = true := by rw [hr6, E6.out.1]; rfl
      clear hr6
      have SU7 := fun W (hW : SinceOf u6.wd W) => negate_any Y.A Y.c (Y.xs) W (HZ.out.2.1.of (SinceOf.trans (by (repeat (first | (with_reducible exact SinceOf.refl _) | (with_reducible assumption) | (with_reducible refine SinceOf.alloc ?_ _) | (with_reducible refine SinceOf.drew ?_) | (with_reducible refine SinceOf.drewN ?_ _) | (with_reducible refine SinceOf.later ?_ _) | (with_reducible refine SinceOf.further ?_ _) | (with_reducible refine SinceOf.setCell ?_ (by first | exact Nat.le_refl _ | (simp; done) | omega | (simp; omega)) _)))) hW)).row HZ.out.2.1.len
      go_wp2_with fail
      refine (SU7 _ (by (repeat (first | (with_reducible exact SinceOf.refl _) | (with_reducible assumption) | (with_reducible refine SinceOf.alloc ?_ _) | (with_reducible refine SinceOf.drew ?_) | (with_reducible refine SinceOf.drewN ?_ _) | (with_reducible refine SinceOf.later ?_ _) | (with_reducible refine SinceOf.further ?_ _) | (with_reducible refine SinceOf.setCell ?_ (by first | exact Nat.le_refl _ | (simp; done) | omega | (simp; omega)) _))))).mono ?_
      rintro e _ ⟨A7, c7, o7, rfl, hs7, hv7, hc7, -, ⟨u7, rfl⟩⟩
      have E7 := Lib.hid (NegV.ok (m := 1000) (by omega) HC.out.2.1.2.1 HC.out.2.1.2.2 hs7)
      have G7 := Lib.hid (And.intro hv7 (And.intro hc7 (show o7.1.length < 4611686018427387904 by have := E7.out.2.2.1.2.1; omega)))
      clear SU7 hs7 hv7 hc7
      obtain ⟨r7, hr7⟩ : ∃ e, e = o7.2 := ⟨_, rfl⟩
      rw [← hr7]
      have gr7 : (r7 != 0) = false := by rw [hr7, E7.out.1]; rfl
      have ge7 : (r7 == 0) = true := by rw [hr7, E7.out.1]; rfl
      clear hr7
      have SU8 := fun W (hW : SinceOf u7.wd W) => negate_any A1 c1 (o1.1) W (G1.out.1.of (SinceOf.trans (by (repeat (first | (with_reducible exact SinceOf.refl _) | (with_reducible assumption) | (with_reducible refine SinceOf.alloc ?_ _) | (with_reducible refine SinceOf.drew ?_) | (with_reducible refine SinceOf.drewN ?_ _) | (with_reducible refine SinceOf.later ?_ _) | (with_reducible refine SinceOf.further ?_ _) | (with_reducible refine SinceOf.setCell ?_ (by first | exact Nat.le_refl _ | (simp; done) | omega | (simp; omega)) _)))) hW)) G1.out.2.2
      go_wp2_with fail
      refine (SU8 _ (by (repeat (first | (with_reducible exact SinceOf.refl _) | (with_reducible assumption) | (with_reducible refine SinceOf.alloc ?_ _) | (with_reducible refine SinceOf.drew ?_) | (with_reducible refine SinceOf.drewN ?_ _) | (with_reducible refine SinceOf.later ?_ _) | (with_reducible refine SinceOf.further ?_ _) | (with_reducible refine SinceOf.setCell ?_ (by first | exact Nat.le_refl _ | (simp; done) | omega | (simp; omega)) _))))).mono ?_
      rintro e _ ⟨A8, c8, o8, rfl, hs8, hv8, hc8, -, ⟨u8, rfl⟩⟩
      have E8 := Lib.hid (NegV.ok (m := 2000) (by omega) E1.out.2.2.1 E1.out.2.2.2.1 hs8)
      have G8 := Lib.hid (And.intro hv8 (And.intro hc8 (show o8.1.length < 4611686018427387904 by have := E8.out.2.2.1.2.1; omega)))
      clear SU8 hs8 hv8 hc8
      obtain ⟨r8, hr8⟩ : ∃ e, e = o8.2 := ⟨_, rfl⟩
      rw [← hr8]
      have gr8 : (r8 != 0) = false := by rw [hr8, E8.out.1]; rfl
      have ge8 : (r8 == 0) = true := by rw [hr8, E8.out.1]; rfl
      clear hr8
      have SU9 := fun W (hW : SinceOf u8.wd W) => sum_any A6 A7 c6 c7 (o6.1) (o7.1) W (G6.out.1.of (SinceOf.trans (by (repeat (first | (with_reducible exact SinceOf.refl _) | (with_reducible assumption) | (with_reducible refine SinceOf.alloc ?_ _) | (with_reducible refine SinceOf.drew ?_) | (with_reducible refine SinceOf.drewN ?_ _) | (with_reducible refine SinceOf.later ?_ _) | (with_reducible refine SinceOf.further ?_ _) | (with_reducible refine SinceOf.setCell ?_ (by first | exact Nat.le_refl _ | (simp; done) | omega | (simp; omega)) _)))) hW)) (G7.out.1.of (SinceOf.trans (by (repeat (first | (with_reducible exact SinceOf.refl _) | (with_reducible assumption) | (with_reducible refine SinceOf.alloc ?_ _) | (with_reducible refine SinceOf.drew ?_) | (with_reducible refine SinceOf.drewN ?_ _) | (with_reducible refine SinceOf.later ?_ _) | (with_reducible refine SinceOf.further ?_ _) | (with_reducible refine SinceOf.setCell ?_ (by first | exact Nat.le_refl _ | (simp; done) | omega | (simp; omega)) _)))) hW)) G6.out.2.1 G7.out.2.1 G6.out.2.2 G7.out.2.2
      go_wp2_with fail
      refine (SU9 _ (by (repeat (first | (with_reducible exact SinceOf.refl _) | (with_reducible assumption) | (with_reducible refine SinceOf.alloc ?_ _) | (with_reducible refine SinceOf.drew ?_) | (with_reducible refine SinceOf.drewN ?_ _) | (with_reducible refine SinceOf.later ?_ _) | (with_reducible refine SinceOf.further ?_ _) | (with_reducible refine SinceOf.setCell ?_ (by first | exact Nat.le_refl _ | (simp; done) | omega | (simp; omega)) _))))).mono ?_
      rintro e _ ⟨A9, c9, o9, rfl, hs9, hv9, hc9, -, ⟨u9, rfl⟩⟩
      have E9 := Lib.hid (sum_ok (m := 1000) (n := 1000) (by omega) E6.out.2.2.1 E7.out.2.2.1 E6.out.2.2.2.1 E7.out.2.2.2.1 (by have := E6.out.2.2.2.2; have := E7.out.2.2.2.2; have := HC.out.1.1; have := HC.out.2.1.1; omega) hs9)
      have G9 := Lib.hid (And.intro hv9 (And.intro hc9 (show o9.1.length < 4611686018427387904 by have := E9.out.2.2.1.2.1; omega)))
      clear SU9 hs9 hv9 hc9
      obtain ⟨r9, hr9⟩ : ∃ e, e = o9.2 := ⟨_, rfl⟩
      rw [← hr9]
      have gr9 : (r9 != 0) = false := by rw [hr9, E9.out.1]; rfl
      have ge9 : (r9 == 0) = true := by rw [hr9, E9.out.1]; rfl
      clear hr9
      have SU10 := fun W (hW : SinceOf u9.wd W) => move_any X.A X.c (X.xs) vx vy W (HZ.out.1.of (SinceOf.trans (by (repeat (first | (with_reducible exact SinceOf.refl _) | (with_reducible assumption) | (with_reducible refine SinceOf.alloc ?_ _) | (with_reducible refine SinceOf.drew ?_) | (with_reducible refine SinceOf.drewN ?_ _) | (with_reducible refine SinceOf.later ?_ _) | (with_reducible refine SinceOf.further ?_ _) | (with_reducible refine SinceOf.setCell ?_ (by first | exact Nat.le_refl _ | (simp; done) | omega | (simp; omega)) _)))) hW)).row HZ.out.1.len
      go_wp2_with fail
      refine (SU10 _ (by (repeat (first | (with_reducible exact SinceOf.refl _) | (with_reducible assumption) | (with_reducible refine SinceOf.alloc ?_ _) | (with_reducible refine SinceOf.drew ?_) | (with_reducible refine SinceOf.drewN ?_ _) | (with_reducible refine SinceOf.later ?_ _) | (with_reducible refine SinceOf.further ?_ _) | (with_reducible refine SinceOf.setCell ?_ (by first | exact Nat.le_refl _ | (simp; done) | omega | (simp; omega)) _))))).mono ?_
      rintro e _ ⟨A10, c10, o10, rfl, hs10, hv10, hc10, -, ⟨u10, rfl⟩⟩
      have E10 := Lib.hid (MoveV.ok (m := 1000) (n := 1000) (by omega) (by omega) HC.out.1.2.1 HC.out.1.2.2 HC.out.2.2.2 hs10)
      have G10 := Lib.hid (And.intro hv10 (And.intro hc10 (show o10.1.length < 4611686018427387904 by have := E10.out.2.2.1.2.1; omega)))
      clear SU10 hs10 hv10 hc10
      obtain ⟨r10, hr10⟩ : ∃ e, e = o10.2 := ⟨_, rfl⟩
      rw [← hr10]
      have gr10 : (r10 != 0) = false := by rw [hr10, E10.out.1]; rfl
      have ge10 : (r10 == 0) = true := by rw [hr10, E10.out.1]; rfl
      clear hr10
      have SU11 := fun W (hW : SinceOf u10.wd W) => move_any A1 c1 (o1.1) vx vy W (G1.out.1.of (SinceOf.trans (by (repeat (first | (with_reducible exact SinceOf.refl _) | (with_reducible assumption) | (with_reducible refine SinceOf.alloc ?_ _) | (with_reducible refine SinceOf.drew ?_) | (with_reducible refine SinceOf.drewN ?_ _) | (with_reducible refine SinceOf.later ?_ _) | (with_reducible refine SinceOf.further ?_ _) | (with_reducible refine SinceOf.setCell ?_ (by first | exact Nat.le_refl _ | (simp; done) | omega | (simp; omega)) _)))) hW)) G1.out.2.2
      go_wp2_with fail
      refine (SU11 _ (by (repeat (first | (with_reducible exact SinceOf.refl _) | (with_reducible assumption) | (with_reducible refine SinceOf.alloc ?_ _) | (with_reducible refine SinceOf.drew ?_) | (with_reducible refine SinceOf.drewN ?_ _) | (with_reducible refine SinceOf.later ?_ _) | (with_reducible refine SinceOf.further ?_ _) | (with_reducible refine SinceOf.setCell ?_ (by first | exact Nat.le_refl _ | (simp; done) | omega | (simp; omega)) _))))).mono ?_
      rintro e _ ⟨A11, c11, o11, rfl, hs11, hv11, hc11, -, ⟨u11, rfl⟩⟩
      have E11 := Lib.hid (MoveV.ok (m := 2000) (n := 1000) (by omega) (by omega) E1.out.2.2.1 E1.out.2.2.2.1 HC.out.2.2.2 hs11)
      have G11 := Lib.hid (And.intro hv11 (And.intro hc11 (show o11.1.length < 4611686018427387904 by have := E11.out.2.2.1.2.1; omega)))
      clear SU11 hs11 hv11 hc11
      obtain ⟨r11, hr11⟩ : ∃ e, e = o11.2 := ⟨_, rfl⟩
      rw [← hr11]
      have gr11 : (r11 != 0) = false := by rw [hr11, E11.out.1]; rfl
      have ge11 : (r11 == 0) = true := by rw [hr11, E11.out.1]; rfl
      clear hr11
      have SU12 := fun W (hW : SinceOf u11.wd W) => sum_any A10 Y.A c10 Y.c (o10.1) (Y.xs) W (G10.out.1.of (SinceOf.trans (by (repeat (first | (with_reducible exact SinceOf.refl _) | (with_reducible assumption) | (with_reducible refine SinceOf.alloc ?_ _) | (with_reducible refine SinceOf.drew ?_) | (with_reducible refine SinceOf.drewN ?_ _) | (with_reducible refine SinceOf.later ?_ _) | (with_reducible refine SinceOf.further ?_ _) | (with_reducible refine SinceOf.setCell ?_ (by first | exact Nat.le_refl _ | (simp; done) | omega | (simp; omega)) _)))) hW)) (HZ.out.2.1.of (SinceOf.trans (by (repeat (first | (with_reducible exact SinceOf.refl _) | (with_reducible assumption) | (with_reducible refine SinceOf.alloc ?_ _) | (with_reducible refine SinceOf.drew ?_) | (with_reducible refine SinceOf.drewN ?_ _) | (with_reducible refine SinceOf.later ?_ _) | (with_reducible refine SinceOf.further ?_ _) | (with_reducible refine SinceOf.setCell ?_ (by first | exact Nat.le_refl _ | (simp; done) | omega | (simp; omega)) _)))) hW)).row G10.out.2.1 HZ.out.2.1.cap G10.out.2.2 HZ.out.2.1.len
      go_wp2_with fail
      refine (SU12 _ (by (repeat (first | (with_reducible exact SinceOf.refl _) | (with_reducible assumption) | (with_reducible refine SinceOf.alloc ?_ _) | (with_reducible refine SinceOf.drew ?_) | (with_reducible refine SinceOf.drewN ?_ _) | (with_reducible refine SinceOf.later ?_ _) | (with_reducible refine SinceOf.further ?_ _) | (with_reducible refine SinceOf.setCell ?_ (by first | exact Nat.le_refl _ | (simp; done) | omega | (simp; omega)) _))))).mono ?_
      rintro e _ ⟨A12, c12, o12, rfl, hs12, hv12, hc12, -, ⟨u12, rfl⟩⟩
      have E12 := Lib.hid (sum_ok (m := 2000) (n := 1000) (by omega) E10.out.2.2.1 HC.out.2.1.2.1 E10.out.2.2.2.1 HC.out.2.1.2.2 (by have := E10.out.2.2.2.2; have := HC.out.1.1; have := HC.out.2.1.1; omega) hs12)
      have G12 := Lib.hid (And.intro hv12 (And.intro hc12 (show o12.1.length < 4611686018427387904 by have := E12.out.2.2.1.2.1; omega)))
      clear SU12 hs12 hv12 hc12
      obtain ⟨r12, hr12⟩ : ∃ e, e = o12.2 := ⟨_, rfl⟩
      rw [← hr12]
      have gr12 : (r12 != 0) = false := by rw [hr12, E12.out.1]; rfl
      have ge12 : (r12 == 0) = true := by rw [hr12, E12.out.1]; rfl
      clear hr12
      have nab : ∀ q ∈ sums2 X.xs Y.xs, near 2000 q := fun q hq => by obtain ⟨a, ha, b, hb, rfl⟩ := mem_sums2.1 hq; have t1 := HC.out.1.2.2 a ha; have t2 := HC.out.2.1.2.2 b hb; unfold near addP at *; simp only; omega
      have e89 : o8.1 = o9.1 := by
        have p1 := sums_neg (map_hull lin_f_neg E1.out.2.1 E8.out.2.1 (fun q hq => near_mono (by omega) (near_neg (nab q hq))))
        have nn : ∀ {r : List Pt}, (∀ p ∈ r, near 1000 p) → ∀ q ∈ r.map negP, near 1000 q := fun h q hq => by obtain ⟨p, hp, rfl⟩ := List.mem_map.1 hq; exact near_neg (h p hp)
        have p2 := sums_hull1 (m := 1000) (n := 1000) (by omega) E6.out.2.1 (nn HC.out.1.2.2) E7.out.2.2.2.1 E9.out.2.1
        have p3 := sums_hull2 (m := 1000) (n := 1000) (by omega) E7.out.2.1 (nn HC.out.2.1.2.2) (nn HC.out.1.2.2) p2
        exact p1.unique p3
      have e1112 : o11.1 = o12.1 := by
        have nv := HC.out.2.2.2
        have p1 := sums_mov (map_hull (lin_f_mov (vx, vy)) E1.out.2.1 E11.out.2.1 (fun q hq => by have t := nab q hq; unfold near addP at *; simp only at *; omega))
        have p2 := sums_hull1 (m := 2000) (n := 1000) (by omega) E10.out.2.1 (fun q hq => by obtain ⟨p, hp, rfl⟩ := List.mem_map.1 hq; have t := HC.out.1.2.2 p hp; unfold near addP at *; simp only at *; omega) HC.out.2.1.2.2 E12.out.2.1
        exact p1.unique p2
      have SA := fun W (hW : SinceOf u12.wd W) => same08_any A8 A9 c8 c9 o8.1 o9.1 W (G8.out.1.of (SinceOf.trans (by (repeat (first | (with_reducible exact SinceOf.refl _) | (with_reducible assumption) | (with_reducible refine SinceOf.alloc ?_ _) | (with_reducible refine SinceOf.drew ?_) | (with_reducible refine SinceOf.drewN ?_ _) | (with_reducible refine SinceOf.later ?_ _) | (with_reducible refine SinceOf.further ?_ _) | (with_reducible refine SinceOf.setCell ?_ (by first | exact Nat.le_refl _ | (simp; done) | omega | (simp; omega)) _)))) hW)) (G9.out.1.of (SinceOf.trans (by (repeat (first | (with_reducible exact SinceOf.refl _) | (with_reducible assumption) | (with_reducible refine SinceOf.alloc ?_ _) | (with_reducible refine SinceOf.drew ?_) | (with_reducible refine SinceOf.drewN ?_ _) | (with_reducible refine SinceOf.later ?_ _) | (with_reducible refine SinceOf.further ?_ _) | (with_reducible refine SinceOf.setCell ?_ (by first | exact Nat.le_refl _ | (simp; done) | omega | (simp; omega)) _)))) hW)) G8.out.2.2 G9.out.2.2
      rw [decide_eq_true e89] at SA
      have SB := fun W (hW : SinceOf u12.wd W) => same08_any A11 A12 c11 c12 o11.1 o12.1 W (G11.out.1.of (SinceOf.trans (by (repeat (first | (with_reducible exact SinceOf.refl _) | (with_reducible assumption) | (with_reducible refine SinceOf.alloc ?_ _) | (with_reducible refine SinceOf.drew ?_) | (with_reducible refine SinceOf.drewN ?_ _) | (with_reducible refine SinceOf.later ?_ _) | (with_reducible refine SinceOf.further ?_ _) | (with_reducible refine SinceOf.setCell ?_ (by first | exact Nat.le_refl _ | (simp; done) | omega | (simp; omega)) _)))) hW)) (G12.out.1.of (SinceOf.trans (by (repeat (first | (with_reducible exact SinceOf.refl _) | (with_reducible assumption) | (with_reducible refine SinceOf.alloc ?_ _) | (with_reducible refine SinceOf.drew ?_) | (with_reducible refine SinceOf.drewN ?_ _) | (with_reducible refine SinceOf.later ?_ _) | (with_reducible refine SinceOf.further ?_ _) | (with_reducible refine SinceOf.setCell ?_ (by first | exact Nat.le_refl _ | (simp; done) | omega | (simp; omega)) _)))) hW)) G11.out.2.2 G12.out.2.2
      rw [decide_eq_true e1112] at SB
      clear e89 e1112 nab
      go_wp2_with fail
      refine (SA _ (by (repeat (first | (with_reducible exact SinceOf.refl _) | (with_reducible assumption) | (with_reducible refine SinceOf.alloc ?_ _) | (with_reducible refine SinceOf.drew ?_) | (with_reducible refine SinceOf.drewN ?_ _) | (with_reducible refine SinceOf.later ?_ _) | (with_reducible refine SinceOf.further ?_ _) | (with_reducible refine SinceOf.setCell ?_ (by first | exact Nat.le_refl _ | (simp; done) | omega | (simp; omega)) _))))).calls.mono ?_
      rintro e _ ⟨rfl, y3, rfl⟩
      go_wp2_with fail
      refine (SB _ (by (repeat (first | (with_reducible exact SinceOf.refl _) | (with_reducible assumption) | (with_reducible refine SinceOf.alloc ?_ _) | (with_reducible refine SinceOf.drew ?_) | (with_reducible refine SinceOf.drewN ?_ _) | (with_reducible refine SinceOf.later ?_ _) | (with_reducible refine SinceOf.further ?_ _) | (with_reducible refine SinceOf.setCell ?_ (by first | exact Nat.le_refl _ | (simp; done) | omega | (simp; omega)) _))))).calls.mono ?_
      rintro e _ ⟨rfl, y4, rfl⟩
      go_wp2_with fail
      go_returns
      exact ⟨by first | rfl | simp, SinceOf.trans ⟨v, rfl⟩ (SinceOf.trans ⟨z, rfl⟩ (by (repeat (first | (with_reducible exact SinceOf.refl _) | (with_reducible assumption) | (with_reducible refine SinceOf.alloc ?_ _) | (with_reducible refine SinceOf.drew ?_) | (with_reducible refine SinceOf.drewN ?_ _) | (with_reducible refine SinceOf.later ?_ _) | (with_reducible refine SinceOf.further ?_ _) | (with_reducible refine SinceOf.setCell ?_ (by first | exact Nat.le_refl _ | (simp; done) | omega | (simp; omega)) _)))))⟩
end Go.Proofs.Ytbienlhofkfdpaa
