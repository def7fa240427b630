/- Layer 15: MinFunc, Index, Concat, begun of the program. -/
import Derived.Test.YtpbgimdbhgahkaaGreatMink1
import Derived.Lib.AppendZerosOnto
import Derived.Test.YtpbgimdbhgahkaaGreatRefSorted
namespace Go.Proofs.YtpbgimdbhgahkaaGreat
open Go.RowKit Go.Sort
set_option linter.unusedVariables false
set_option linter.unusedSimpArgs false
attribute [local go_sem ↓] Go.wp_at_zero Go.wp_at_succ

set_option maxHeartbeats 4000000 in
set_option maxRecDepth 100000 in
theorem growV_any (n : Nat) (hn : n * 16 ≤ 140737488355328) (w : World) :
    Calls Tryz.prog 73 #[.slice none 0 0, .int .i64 n] w fun e w' => ∃ A' c', e = .returned (.slice A' 0 c') ∧ OwnVecs w.heap.size w' A' c' [] ∧ SinceOf w w' := by
  by_cases h0 : n = 0
  · subst h0
    go_enter Tryz.func73, Tryz.ntmps73
    go_wp2
    go_returns
    exact ⟨none, 0, rfl, Owns.nil _ _ _ _ _, SinceOf.refl _⟩
  · obtain ⟨i0, hi, hz0, hz1, hz2⟩ := info_parts infoVec
    have hold : (Builtin.firstCells i0.size 0 (.slice none 0 0)).run Tryz.prog w.drew = .ok #[] w.drew := run_firstCells_none w.drew i0.size 0 0 0
    have hrz : ∀ ty, (Builtin.append_ #[41, 3] ty #[.slice none 0 0, .int .i64 (n : Int)]).run Tryz.prog w =
        .ok (.slice (some ⟨w.heap.size, 0, none⟩) n (grownCap w n 0 24)) (w.drew.alloc (.cells (#[] ++ Builtin.zeroCells (Value.agg #[.int .i64 0, .int .i64 0]).cells n ++ Builtin.zeroCells (Value.agg #[.int .i64 0, .int .i64 0]).cells (grownCap w n 0 24 - n)) 24)) := fun ty => by
      have h := Lib.run_append_grow_zeros w 41 3 ty 24 i0 _ .i64 .i64 Tryz.underlying41 Tryz.underlying3 hi hz0 none 0 0 [] hold n (by omega) (by omega) (by omega) (by omega) (by rw [hz2]; omega) (by rw [Nat.zero_add, hz2]; exact growslice_fits (by omega) hn)
      simpa only [Nat.zero_add] using h
    have hGn : n ≤ grownCap w n 0 24 := grownCap_ge w _ _ _
    have hG63 : grownCap w n 0 24 ≤ maxLen := grownCap_le_maxLen w n 0 24 (by unfold maxLen; omega)
    have hG : ((#[] ++ Builtin.zeroCells (Value.agg #[.int .i64 0, .int .i64 0]).cells n ++ Builtin.zeroCells (Value.agg #[.int .i64 0, .int .i64 0]).cells (grownCap w n 0 24 - n))).size = grownCap w n 0 24 * 2 := by
      rw [Array.size_append, Array.size_append, size_zeroCells, size_zeroCells]
      show 0 + n * 2 + (grownCap w n 0 24 - n) * 2 = _
      omega
    generalize grownCap w n 0 24 = G at *
    generalize #[] ++ Builtin.zeroCells (Value.agg #[.int .i64 0, .int .i64 0]).cells n ++ Builtin.zeroCells (Value.agg #[.int .i64 0, .int .i64 0]).cells (G - n) = cs at *
    have hG2 : G ≤ 9223372036854775807 := by unfold maxLen at hG63; omega
    have HG := Lib.hid (And.intro hG hG63)
    have hnn : n < 4611686018427387904 := by omega
    clear hold hG hG63 hi hz0 hz1 hz2
    go_enter Tryz.func73, Tryz.ntmps73
    go_wp2_with (at_builtin; refine Lib.wpList_append_run _ rfl _ _ _ _ rfl _ _ rfl rfl _ _ (hrz _) ?_)
    go_returns
    refine ⟨some ⟨w.heap.size, 0, none⟩, G, rfl, ?_, by (repeat (first | (with_reducible exact SinceOf.refl _) | (with_reducible assumption) | (with_reducible refine SinceOf.alloc ?_ _) | (with_reducible refine SinceOf.drew ?_) | (with_reducible refine SinceOf.drewN ?_ _) | (with_reducible refine SinceOf.later ?_ _) | (with_reducible refine SinceOf.further ?_ _) | (with_reducible refine SinceOf.setCell ?_ (by first | exact Nat.le_refl _ | (simp; done) | omega | (simp; omega)) _)))⟩
    exact ⟨rfl, .inr ⟨w.heap.size, G, cs, rfl, Nat.le_refl _, heap_alloc_new w.drew _, Nat.zero_le _, HG.out.2, HG.out.1, by simp⟩⟩
def catAt (l1 l2 : List (Int × Int)) (k : Nat) : List (Int × Int) := if k = 0 then [] else if k = 1 then l1 else l1 ++ l2
theorem catAt_len (l1 l2 : List (Int × Int)) (k : Nat) : (catAt l1 l2 k).length ≤ l1.length + l2.length := by unfold catAt; split <;> (try split) <;> simp
set_option maxHeartbeats 4000000 in
set_option maxRecDepth 100000 in
theorem concat2_any (A1 A2 : Option Addr) (c1 c2 : Nat) (l1 l2 : List (Int × Int)) (g cp : Nat) (w : World) (h0 : w.cell? ⟨g, 0, none⟩ = some (.slice A1 l1.length c1)) (h1 : w.cell? ⟨g, 1, none⟩ = some (.slice A2 l2.length c2)) (hO : Nonempty (Old w g)) (hl1 : IsVecs w A1 c1 l1) (hl2 : IsVecs w A2 c2 l2) (hn : (l1.length + l2.length) * 16 ≤ 140737488355328) :
    Calls Tryz.prog 59 #[.slice (some ⟨g, 0, none⟩) 2 cp] w fun e w' => ∃ A' c', e = .returned (.slice A' (l1 ++ l2).length c') ∧ OwnVecs w.heap.size w' A' c' (l1 ++ l2) ∧ SinceOf w w' := by
  have hcell : ∀ k, k < 2 → ∃ (Ak : Option Addr) (lk : List (Int × Int)) (ck : Nat), w.cell? ⟨g, k, none⟩ = some (.slice Ak lk.length ck) ∧ IsVecs w Ak ck lk ∧ catAt l1 l2 (k + 1) = catAt l1 l2 k ++ lk := by
    intro k hk
    by_cases e : k = 0
    · subst e; exact ⟨A1, l1, c1, h0, hl1, by simp [catAt]⟩
    · obtain rfl : k = 1 := by omega
      exact ⟨A2, l2, c2, h1, hl2, by simp [catAt]⟩
  have H := Lib.hid hcell
  have hlen := fun k => catAt_len l1 l2 k
  have HL := Lib.hid hlen
  obtain ⟨i0, hi, hz0, hz1, hz2⟩ := info_parts infoVec
  have HI := Lib.hid (And.intro hi (And.intro hz0 (And.intro hz1 hz2)))
  clear hcell h0 h1 hl1 hl2 hlen hi hz0 hz1 hz2
  go_enter Tryz.func59, Tryz.ntmps59
  go_wp2_with fail
  go_loopg [3, 11] 2 (fun gas s3 s11 wr => ∃ k z : Nat, k ≤ 2 ∧ 2 - k ≤ gas ∧ s11 = .int .i64 k ∧ s3 = .int .i64 z ∧ z = (catAt l1 l2 k).length ∧ w = wr)
  case atStart => exact ⟨0, 0, by omega, by omega, rfl, rfl, rfl, rfl⟩
  case round =>
    obtain ⟨k, z, hk, hgas, rfl, rfl, hz, rfl⟩ := hrel
    by_cases hlt : k < 2
    · obtain ⟨Ak, lk, ck, hcell, -, hcat⟩ := H.out k hlt
      have hzl := HL.out (k + 1)
      rw [hcat, List.length_append, ← hz] at hzl
      have HZ := Lib.hid (show z + lk.length = (catAt l1 l2 (k + 1)).length by rw [hcat, List.length_append, hz])
      clear hcat hz
      have hb : z + lk.length < 4611686018427387904 := by omega
      go_wp2_with fail
      go_roundg (2 - (k + 1))
      case measure => omega
      case rel => exact ⟨k + 1, z + lk.length, by omega, Nat.le_refl _, by go_num, by go_num, HZ.out, rfl⟩
    · obtain rfl : k = 2 := by omega
      have hz2 : z = (l1 ++ l2).length := hz
      have hzb : z ≤ l1.length + l2.length := by rw [hz2]; simp
      have HZ := Lib.hid hz2
      clear hz hz2
      go_wp2_with fail
      refine (growV_any z (by omega) _).mono ?_
      rintro e _ ⟨A3, c3, rfl, ho3, ⟨y, rfl⟩⟩
      have HO := Lib.hid ho3
      clear ho3
      go_wp2_with fail
      go_loopg [6, 27] 2 (fun gas s6 s27 wr => ∃ (k : Nat) (A' : Option Addr) (c' : Nat), k ≤ 2 ∧ 2 - k ≤ gas ∧ s27 = .int .i64 k ∧ s6 = .slice A' (catAt l1 l2 k).length c' ∧ OwnVecs w.heap.size wr A' c' (catAt l1 l2 k) ∧ SinceOf w wr)
      case atStart => exact ⟨0, A3, c3, by omega, by omega, rfl, rfl, HO.out, ⟨y, rfl⟩⟩
      case round =>
        obtain ⟨k, A4, c4, hk, hgas, rfl, rfl, hown, ⟨z2, rfl⟩⟩ := hrel
        by_cases hlt : k < 2
        · obtain ⟨Ak, lk, ck, hcell, hvk, hcat⟩ := H.out k hlt
          have hzl := HL.out (k + 1)
          rw [hcat, List.length_append] at hzl
          have hz2s := z2.size
          have HH := Lib.hid (And.intro hown (And.intro hvk hcat))
          generalize catAt l1 l2 k = m at *
          clear hown hvk hcat
          go_wp2_with (at_builtin; refine wpList_append_row rfl (.tmp 31) (.tmp 32) 41 rfl encV_len (by omega) encV_one i0 _ 16 Tryz.underlying41 HI.out.1 HI.out.2.1 HI.out.2.2.1 HI.out.2.2.2 rfl (l := m) (A := A4) (c := c4) (base := w.heap.size) rfl HH.out.1 (m := lk) rfl (HH.out.2.1.of (by (repeat (first | (with_reducible exact SinceOf.refl _) | (with_reducible assumption) | (with_reducible refine SinceOf.alloc ?_ _) | (with_reducible refine SinceOf.drew ?_) | (with_reducible refine SinceOf.drewN ?_ _) | (with_reducible refine SinceOf.later ?_ _) | (with_reducible refine SinceOf.further ?_ _) | (with_reducible refine SinceOf.setCell ?_ (by first | exact Nat.le_refl _ | (simp; done) | omega | (simp; omega)) _))))) (by unfold maxLen; omega) (by omega) (by omega) ?_; intro A5 c5 w5 hown5 hgr5 hbl5)
          go_roundg (2 - (k + 1))
          case measure => omega
          case rel => exact ⟨k + 1, A5, c5, by omega, Nat.le_refl _, by go_num, by rw [HH.out.2.2, List.length_append], by rw [HH.out.2.2]; exact hown5, SinceOf.grown ⟨z2, rfl⟩ hgr5 (fun b hb => (HH.out.1.below b hb).1)⟩
        · obtain rfl : k = 2 := by omega
          have hown' : OwnVecs w.heap.size z2.wd A4 c4 (l1 ++ l2) := hown
          have HH := Lib.hid hown'
          rw [show catAt l1 l2 2 = l1 ++ l2 from rfl]
          clear hown hown'
          obtain ⟨nn, hnn⟩ : ∃ nn, nn = (l1 ++ l2).length := ⟨_, rfl⟩
          rw [← hnn]
          have HN := Lib.hid hnn
          clear hnn
          go_wp2_with fail
          go_returns
          exact ⟨A4, c4, by rw [← HN.out]; rfl, HH.out, ⟨z2, rfl⟩⟩
theorem lexy_trans {p q r : Pt} (h : lexy p q) (k : lexy q r) : lexy p r := by unfold lexy at *; omega
theorem vcmp_lexy (p q : Pt) : vcmp p.1 p.2 q.1 q.2 < 0 ↔ lexy p q := by
  unfold lexy
  rcases vcmp_cases p.1 p.2 q.1 q.2 with ⟨h, e⟩ | ⟨h, e⟩ | ⟨h, h2, e⟩ <;> rw [e] <;> omega
theorem VarV.other {W : World} {g k : Nat} {p : Pt} (h : VarV W g p) (hne : k ≠ g) (x y : Value) : VarV ((W.setCell ⟨k, 0, none⟩ x).setCell ⟨k, 1, none⟩ y) g p := by
  have hA : Nonempty (Apart g k) := ⟨⟨fun e => hne e.symm⟩⟩
  exact ⟨by rw [cell_apart, cell_apart]; exact h.c0, by rw [cell_apart, cell_apart]; exact h.c1, by simpa using h.f0, by simpa using h.f1, by simpa [World.setCell] using h.lt⟩
set_option maxRecDepth 100000 in
set_option maxHeartbeats 4000000 in
theorem minFunc_any (A : Option Addr) (c : Nat) (r : List (Int × Int)) (w : World) (h : IsVecs w A c r) (h0 : 0 < r.length) (hlen : r.length ≤ 100000) :
    Calls Tryz.prog 57 #[.slice A r.length c, .func (.func 58) #[] #[]] w fun e w' => ∃ p : Pt, e = .returned (vv p.1 p.2) ∧ p ∈ r ∧ (∀ q ∈ r, ¬ lexy q p) ∧ LaterOf w w' := by
  have H := Lib.hid h
  obtain ⟨g0, off0, rfl, hr0⟩ := h.at_ h0
  have hO0 := hr0.there
  have z0 := hr0.v0 0 h0
  have z1 := hr0.v1 0 h0
  have hz0 : r[0] ∈ r := List.getElem_mem h0
  have HZ := Lib.hid hz0
  obtain ⟨p0, hp0⟩ : ∃ p0, p0 = r[0] := ⟨_, rfl⟩
  rw [← hp0] at z0 z1 HZ
  have HP0 := Lib.hid hp0
  obtain ⟨x0, y0⟩ := p0
  simp only [Nat.zero_mul, Nat.add_zero] at z0 z1
  have g1 : decide ((r.length : Int) < 1) = false := decide_eq_false (by omega)
  have hl1 : (0 : Int) < (r.length : Int) := by omega
  clear h hr0 hz0 hp0
  go_enter Tryz.func57, Tryz.ntmps57
  go_wp2_with fail
  have V1 := Lib.hid (VarV.new (w.alloc (.cells #[.int .i64 0, .int .i64 0] 24)) x0 y0 24)
  have V0 := Lib.hid ((VarV.new w 0 0 24).of (W' := (w.alloc (.cells #[.int .i64 0, .int .i64 0] 24)).alloc (.cells #[.int .i64 x0, .int .i64 y0] 24)) (by (repeat (first | (with_reducible exact SinceOf.refl _) | (with_reducible assumption) | (with_reducible refine SinceOf.alloc ?_ _) | (with_reducible refine SinceOf.drew ?_) | (with_reducible refine SinceOf.drewN ?_ _) | (with_reducible refine SinceOf.later ?_ _) | (with_reducible refine SinceOf.further ?_ _) | (with_reducible refine SinceOf.setCell ?_ (by first | exact Nat.le_refl _ | (simp; done) | omega | (simp; omega)) _)))))
  go_loopg [6] r.length (fun gas s6 wr => ∃ (i : Nat) (p : Pt), 1 ≤ i ∧ i ≤ r.length ∧ r.length - i ≤ gas ∧ s6 = .int .i64 i ∧ VarV wr (w.heap.size + 1) p ∧ VarV wr w.heap.size (0, 0) ∧ p ∈ r ∧ (∀ q ∈ r.take i, ¬ lexy q p) ∧ LaterOf w wr)
  case atStart =>
    refine ⟨1, (x0, y0), Nat.le_refl _, h0, by omega, rfl, by simpa using V1.out, V0.out, HZ.out, fun q hq => ?_, by (repeat (first | (with_reducible exact LaterOf.refl _) | (with_reducible refine LaterOf.alloc ?_ _) | (with_reducible refine LaterOf.drew ?_) | (with_reducible refine LaterOf.drewN ?_ _) | (with_reducible refine LaterOf.later ?_ _) | (with_reducible refine LaterOf.setCell ?_ (by first | exact Nat.le_refl _ | (simp; done) | omega | (simp; omega)) _)))⟩
    rw [List.take_succ_eq_append_getElem h0, List.take_zero, List.nil_append, List.mem_singleton, ← HP0.out] at hq
    rw [hq]
    exact fun h => h.asymm h
  case round =>
    obtain ⟨i, p, hi1, hi, hgas, rfl, v1, v0, hpr, hmin, ⟨z, rfl⟩⟩ := hrel
    obtain ⟨px, py⟩ := p
    have c0 := v1.c0
    have c1 := v1.c1
    have d0 := v0.c0
    have d1 := v0.c1
    have f0 := v1.f0
    have f1 := v1.f1
    have o1 : Nonempty (Old z.wd (w.heap.size + 1)) := ⟨⟨v1.lt⟩⟩
    have o0 : Nonempty (Old z.wd w.heap.size) := ⟨⟨v0.lt⟩⟩
    simp only at c0 c1 d0 d1
    have HV := Lib.hid (And.intro v1 (And.intro v0 (And.intro hpr hmin)))
    clear v1 v0 hpr hmin
    by_cases hlt : i < r.length
    · have hc := H.out.of (w' := z.wd) (by (repeat (first | (with_reducible exact SinceOf.refl _) | (with_reducible assumption) | (with_reducible refine SinceOf.alloc ?_ _) | (with_reducible refine SinceOf.drew ?_) | (with_reducible refine SinceOf.drewN ?_ _) | (with_reducible refine SinceOf.later ?_ _) | (with_reducible refine SinceOf.further ?_ _) | (with_reducible refine SinceOf.setCell ?_ (by first | exact Nat.le_refl _ | (simp; done) | omega | (simp; omega)) _))))
      obtain ⟨g, off, he, hr⟩ := hc.at_ (by omega)
      injection he with he
      injection he with hg1 ho1
      subst hg1 ho1
      have hO := hr.there
      have a0 := hr.v0 i hlt
      have a1 := hr.v1 i hlt
      have CP := compare_any r[i].1 r[i].2 px py
      have hv := vcmp_lexy r[i] (px, py)
      have htk := List.take_succ_eq_append_getElem hlt
      have hmr : r[i] ∈ r := List.getElem_mem hlt
      have HT := Lib.hid (And.intro htk hmr)
      clear htk hmr hr hc
      obtain ⟨q, hq⟩ : ∃ q, q = r[i] := ⟨_, rfl⟩
      rw [← hq] at a0 a1 CP hv HT
      clear hq
      obtain ⟨qx, qy⟩ := q
      simp only at a0 a1 CP hv
      generalize vcmp qx qy px py = cv at *
      by_cases hl : lexy (qx, qy) (px, py)
      · have g2 : decide (cv < 0) = true := decide_eq_true (hv.2 hl)
        have HL := Lib.hid hl
        clear hv hl
        go_wp2_with fail
        refine region_later (by kernel_rfl) (by kernel_rfl) ?_
        repeat (go_big_quiet_step ((with_reducible refine Gives.later (CP _))))
        refine wpQuiet_nil ?_
        rintro _ ⟨z4, rfl⟩
        go_wp2_with fail
        go_roundg (r.length - (i + 1))
        case measure => omega
        case rel =>
          refine ⟨i + 1, (qx, qy), by omega, hlt, Nat.le_refl _, by go_num, (HV.out.1.of (W' := z4.wd) (by (repeat (first | (with_reducible exact SinceOf.refl _) | (with_reducible assumption) | (with_reducible refine SinceOf.alloc ?_ _) | (with_reducible refine SinceOf.drew ?_) | (with_reducible refine SinceOf.drewN ?_ _) | (with_reducible refine SinceOf.later ?_ _) | (with_reducible refine SinceOf.further ?_ _) | (with_reducible refine SinceOf.setCell ?_ (by first | exact Nat.le_refl _ | (simp; done) | omega | (simp; omega)) _))))).put _ _, (HV.out.2.1.of (W' := z4.wd) (by (repeat (first | (with_reducible exact SinceOf.refl _) | (with_reducible assumption) | (with_reducible refine SinceOf.alloc ?_ _) | (with_reducible refine SinceOf.drew ?_) | (with_reducible refine SinceOf.drewN ?_ _) | (with_reducible refine SinceOf.later ?_ _) | (with_reducible refine SinceOf.further ?_ _) | (with_reducible refine SinceOf.setCell ?_ (by first | exact Nat.le_refl _ | (simp; done) | omega | (simp; omega)) _))))).other (by simp) _ _, HT.out.2, fun q hq => ?_, by (repeat (first | (with_reducible exact LaterOf.refl _) | (with_reducible refine LaterOf.alloc ?_ _) | (with_reducible refine LaterOf.drew ?_) | (with_reducible refine LaterOf.drewN ?_ _) | (with_reducible refine LaterOf.later ?_ _) | (with_reducible refine LaterOf.setCell ?_ (by first | exact Nat.le_refl _ | (simp; done) | omega | (simp; omega)) _)))⟩
          rw [HT.out.1] at hq
          rcases List.mem_append.1 hq with hq | hq
          · exact fun h => HV.out.2.2.2 q hq (lexy_trans h HL.out)
          · rw [List.mem_singleton] at hq
            rw [hq]
            exact fun h => h.asymm h
      · have g2 : decide (cv < 0) = false := decide_eq_false (fun h => hl (hv.1 h))
        have HL := Lib.hid hl
        clear hv hl
        go_wp2_with fail
        refine region_later (by kernel_rfl) (by kernel_rfl) ?_
        repeat (go_big_quiet_step ((with_reducible refine Gives.later (CP _))))
        refine wpQuiet_nil ?_
        rintro _ ⟨z4, rfl⟩
        go_wp2_with fail
        go_roundg (r.length - (i + 1))
        case measure => omega
        case rel =>
          refine ⟨i + 1, (px, py), by omega, hlt, Nat.le_refl _, by go_num, HV.out.1.of (by (repeat (first | (with_reducible exact SinceOf.refl _) | (with_reducible assumption) | (with_reducible refine SinceOf.alloc ?_ _) | (with_reducible refine SinceOf.drew ?_) | (with_reducible refine SinceOf.drewN ?_ _) | (with_reducible refine SinceOf.later ?_ _) | (with_reducible refine SinceOf.further ?_ _) | (with_reducible refine SinceOf.setCell ?_ (by first | exact Nat.le_refl _ | (simp; done) | omega | (simp; omega)) _)))), HV.out.2.1.of (by (repeat (first | (with_reducible exact SinceOf.refl _) | (with_reducible assumption) | (with_reducible refine SinceOf.alloc ?_ _) | (with_reducible refine SinceOf.drew ?_) | (with_reducible refine SinceOf.drewN ?_ _) | (with_reducible refine SinceOf.later ?_ _) | (with_reducible refine SinceOf.further ?_ _) | (with_reducible refine SinceOf.setCell ?_ (by first | exact Nat.le_refl _ | (simp; done) | omega | (simp; omega)) _)))), HV.out.2.2.1, fun q hq => ?_, by (repeat (first | (with_reducible exact LaterOf.refl _) | (with_reducible refine LaterOf.alloc ?_ _) | (with_reducible refine LaterOf.drew ?_) | (with_reducible refine LaterOf.drewN ?_ _) | (with_reducible refine LaterOf.later ?_ _) | (with_reducible refine LaterOf.setCell ?_ (by first | exact Nat.le_refl _ | (simp; done) | omega | (simp; omega)) _)))⟩
          rw [HT.out.1] at hq
          rcases List.mem_append.1 hq with hq | hq
          · exact HV.out.2.2.2 q hq
          · rw [List.mem_singleton] at hq
            rw [hq]
            exact HL.out
    · obtain rfl : i = r.length := by omega
      clear f0 f1
      have f0 := HV.out.2.1.f0
      have f1 := HV.out.2.1.f1
      go_wp2_with fail
      refine bodyPost_ret (by simp [results, Tryz.results57, go_sem, *]; try rfl) rfl ?_
      refine ⟨(px, py), rfl, HV.out.2.2.1, fun q hq => HV.out.2.2.2 q (by rw [List.take_length]; exact hq), by (repeat (first | (with_reducible exact LaterOf.refl _) | (with_reducible refine LaterOf.alloc ?_ _) | (with_reducible refine LaterOf.drew ?_) | (with_reducible refine LaterOf.drewN ?_ _) | (with_reducible refine LaterOf.later ?_ _) | (with_reducible refine LaterOf.setCell ?_ (by first | exact Nat.le_refl _ | (simp; done) | omega | (simp; omega)) _)))⟩
set_option maxRecDepth 100000 in
set_option maxHeartbeats 4000000 in
theorem indexV_any (A : Option Addr) (c : Nat) (r : List (Int × Int)) (px py : Int) (w : World) (h : IsVecs w A c r) (hp : (px, py) ∈ r) (hlen : r.length ≤ 100000) :
    Calls Tryz.prog 56 #[.slice A r.length c, vv px py] w fun e w' => ∃ k : Nat, e = .returned (.int .i64 k) ∧ k < r.length ∧ at0 r k = (px, py) ∧ LaterOf w w' := by
  have H := Lib.hid h
  have HP := Lib.hid hp
  clear h hp
  go_enter Tryz.func56, Tryz.ntmps56
  go_wp2_with fail
  have V0 := Lib.hid (VarV.new w px py 24)
  go_loopg [8] r.length (fun gas s8 wr => ∃ k : Nat, k ≤ r.length ∧ r.length - k ≤ gas ∧ s8 = .int .i64 k ∧ VarV wr w.heap.size (px, py) ∧ LaterOf w wr ∧ (px, py) ∈ r.drop k)
  case atStart => exact ⟨0, by omega, by omega, rfl, V0.out.of (by (repeat (first | (with_reducible exact SinceOf.refl _) | (with_reducible assumption) | (with_reducible refine SinceOf.alloc ?_ _) | (with_reducible refine SinceOf.drew ?_) | (with_reducible refine SinceOf.drewN ?_ _) | (with_reducible refine SinceOf.later ?_ _) | (with_reducible refine SinceOf.further ?_ _) | (with_reducible refine SinceOf.setCell ?_ (by first | exact Nat.le_refl _ | (simp; done) | omega | (simp; omega)) _)))), by (repeat (first | (with_reducible exact LaterOf.refl _) | (with_reducible refine LaterOf.alloc ?_ _) | (with_reducible refine LaterOf.drew ?_) | (with_reducible refine LaterOf.drewN ?_ _) | (with_reducible refine LaterOf.later ?_ _) | (with_reducible refine LaterOf.setCell ?_ (by first | exact Nat.le_refl _ | (simp; done) | omega | (simp; omega)) _))), by rw [List.drop_zero]; exact HP.out⟩
  case round =>
    obtain ⟨k, hk, hgas, rfl, v0, ⟨z, rfl⟩, hin⟩ := hrel
    by_cases hlt : k < r.length
    · have hc := (H.out.of (LaterOf.since ⟨z, rfl⟩))
      obtain ⟨g, off, rfl, hr⟩ := hc.at_ (by omega)
      have hO := hr.there
      have k0 := hr.v0 k hlt
      have k1 := hr.v1 k hlt
      have d0 := v0.c0
      have d1 := v0.c1
      have hU1 : Nonempty (Old z.wd w.heap.size) := ⟨⟨v0.lt⟩⟩
      have ek := at0_eq hlt
      rw [List.drop_eq_getElem_cons hlt, List.mem_cons] at hin
      generalize r[k] = x at *
      obtain ⟨x, y⟩ := x
      simp only at k0 k1 d0 d1
      have HE := Lib.hid (And.intro v0 (And.intro hin ek))
      clear hc hr v0 hin ek
      by_cases he : eqv px py x y = true
      · obtain ⟨rfl, rfl⟩ := eqv_iff.1 he
        clear he
        go_wp2_with fail
        refine region_later (by kernel_rfl) (by kernel_rfl) ?_
        repeat (go_big_quiet_step (fail))
        refine wpQuiet_nil ?_
        rintro _ ⟨z4, rfl⟩
        go_wp2_with fail
        go_returns
        exact ⟨k, rfl, hlt, HE.out.2.2, by (repeat (first | (with_reducible exact LaterOf.refl _) | (with_reducible refine LaterOf.alloc ?_ _) | (with_reducible refine LaterOf.drew ?_) | (with_reducible refine LaterOf.drewN ?_ _) | (with_reducible refine LaterOf.later ?_ _) | (with_reducible refine LaterOf.setCell ?_ (by first | exact Nat.le_refl _ | (simp; done) | omega | (simp; omega)) _)))⟩
      · have hne : eqv px py x y = false := by simpa using he
        have HN := Lib.hid he
        clear he
        go_wp2_with fail
        refine region_later (by kernel_rfl) (by kernel_rfl) ?_
        repeat (go_big_quiet_step (fail))
        refine wpQuiet_nil ?_
        rintro _ ⟨z4, rfl⟩
        go_wp2_with fail
        go_roundg (r.length - (k + 1))
        case measure => omega
        case rel =>
          refine ⟨k + 1, hlt, Nat.le_refl _, by go_num, HE.out.1.of (by (repeat (first | (with_reducible exact SinceOf.refl _) | (with_reducible assumption) | (with_reducible refine SinceOf.alloc ?_ _) | (with_reducible refine SinceOf.drew ?_) | (with_reducible refine SinceOf.drewN ?_ _) | (with_reducible refine SinceOf.later ?_ _) | (with_reducible refine SinceOf.further ?_ _) | (with_reducible refine SinceOf.setCell ?_ (by first | exact Nat.le_refl _ | (simp; done) | omega | (simp; omega)) _)))), by (repeat (first | (with_reducible exact LaterOf.refl _) | (with_reducible refine LaterOf.alloc ?_ _) | (with_reducible refine LaterOf.drew ?_) | (with_reducible refine LaterOf.drewN ?_ _) | (with_reducible refine LaterOf.later ?_ _) | (with_reducible refine LaterOf.setCell ?_ (by first | exact Nat.le_refl _ | (simp; done) | omega | (simp; omega)) _))), ?_⟩
          rcases HE.out.2.1 with e | e
          · exfalso
            injection e with e1 e2
            exact HN.out (eqv_iff.2 ⟨e1, e2⟩)
          · exact e
    · obtain rfl : k = r.length := by omega
      rw [List.drop_length] at hin
      cases hin
set_option maxHeartbeats 4000000 in
set_option maxRecDepth 100000 in
theorem begun_any (A : Option Addr) (c : Nat) (r : List (Int × Int)) (w : World) (h : IsVecs w A c r) (hn : 0 < r.length) (hlen : r.length ≤ 100000) (hc : r.length ≤ c) :
    Calls Tryz.prog 34 #[.slice A r.length c] w fun e w' => ∃ A' c' k, e = .returned (.slice A' r.length c') ∧ k < r.length ∧ (∀ j, j < r.length → ¬ lexy (at0 r j) (at0 r k)) ∧ OwnVecs w.heap.size w' A' c' (rotL k r) ∧ SinceOf w w' := by
  have H := Lib.hid h
  obtain ⟨g, off, rfl, hr⟩ := h.at_ hn
  have hO := hr.there
  clear h hr
  go_enter Tryz.func34, Tryz.ntmps34
  go_wp2_with fail
  refine (minFunc_any _ c r _ (H.out.of (by (repeat (first | (with_reducible exact SinceOf.refl _) | (with_reducible assumption) | (with_reducible refine SinceOf.alloc ?_ _) | (with_reducible refine SinceOf.drew ?_) | (with_reducible refine SinceOf.drewN ?_ _) | (with_reducible refine SinceOf.later ?_ _) | (with_reducible refine SinceOf.further ?_ _) | (with_reducible refine SinceOf.setCell ?_ (by first | exact Nat.le_refl _ | (simp; done) | omega | (simp; omega)) _))))) hn hlen).mono ?_
  rintro e _ ⟨p, rfl, hp, hmin, x1, rfl⟩
  go_wp2_with fail
  refine (indexV_any _ c r p.1 p.2 _ (H.out.of (by (repeat (first | (with_reducible exact SinceOf.refl _) | (with_reducible assumption) | (with_reducible refine SinceOf.alloc ?_ _) | (with_reducible refine SinceOf.drew ?_) | (with_reducible refine SinceOf.drewN ?_ _) | (with_reducible refine SinceOf.later ?_ _) | (with_reducible refine SinceOf.further ?_ _) | (with_reducible refine SinceOf.setCell ?_ (by first | exact Nat.le_refl _ | (simp; done) | omega | (simp; omega)) _))))) hp hlen).mono ?_
  rintro e _ ⟨b, rfl, hb, hat, x2, rfl⟩
  have hall : ∀ j, j < r.length → ¬ lexy (at0 r j) (at0 r b) := fun j hj => by rw [hat]; exact hmin _ (at0_mem hj)
  have HA := Lib.hid hall
  clear hall hat hmin hp
  have hcb : ¬ c = b := by omega
  have hd : IsVecs w (some ⟨g, off + b * 2, none⟩) (c - b) (r.drop b) := by
    have := H.out.drop hc b
    rw [if_neg hcb] at this
    simp only [Option.map_some, add_none] at this
    exact this
  have ht : IsVecs w (some ⟨g, off, none⟩) c (r.take b) := H.out.take b
  have HD := Lib.hid (And.intro hd ht)
  clear hd ht
  have z1 : (0 : Int) ≤ (b : Int) := by omega
  have z2 : (b : Int) ≤ (r.length : Int) := by omega
  have z3 : (b : Int) ≤ (c : Int) := by omega
  have z4 : (r.length : Int) ≤ (c : Int) := by omega
  obtain ⟨z, hz⟩ : LaterOf w x2.wd := by (repeat (first | (with_reducible exact LaterOf.refl _) | (with_reducible refine LaterOf.alloc ?_ _) | (with_reducible refine LaterOf.drew ?_) | (with_reducible refine LaterOf.drewN ?_ _) | (with_reducible refine LaterOf.later ?_ _) | (with_reducible refine LaterOf.setCell ?_ (by first | exact Nat.le_refl _ | (simp; done) | omega | (simp; omega)) _)))
  rw [hz]
  clear hz x2 x1
  go_wp2_with fail
  go_region_held3 (fun w' => True) (trivial)
    ((go_at_call 59; refine (concat2_any (some ⟨g, off + b * 2, none⟩) (some ⟨g, off, none⟩) (c - b) c (r.drop b) (r.take b) z.wd.heap.size 2 _ (by rw [List.length_drop]; simp [go_sem]) (by rw [List.length_take, Nat.min_eq_left (by omega)]; simp [go_sem]) inferInstance (HD.out.1.of (by (repeat (first | (with_reducible exact SinceOf.refl _) | (with_reducible assumption) | (with_reducible refine SinceOf.alloc ?_ _) | (with_reducible refine SinceOf.drew ?_) | (with_reducible refine SinceOf.drewN ?_ _) | (with_reducible refine SinceOf.later ?_ _) | (with_reducible refine SinceOf.further ?_ _) | (with_reducible refine SinceOf.setCell ?_ (by first | exact Nat.le_refl _ | (simp; done) | omega | (simp; omega)) _))))) (HD.out.2.of (by (repeat (first | (with_reducible exact SinceOf.refl _) | (with_reducible assumption) | (with_reducible refine SinceOf.alloc ?_ _) | (with_reducible refine SinceOf.drew ?_) | (with_reducible refine SinceOf.drewN ?_ _) | (with_reducible refine SinceOf.later ?_ _) | (with_reducible refine SinceOf.further ?_ _) | (with_reducible refine SinceOf.setCell ?_ (by first | exact Nat.le_refl _ | (simp; done) | omega | (simp; omega)) _))))) (by rw [List.length_drop, List.length_take]; omega)).mono ?_; rintro e _ ⟨A5, c5, rfl, ho5, ⟨y5, rfl⟩⟩))
  all_goals
    have HO := Lib.hid ho5
    clear ho5
    go_wp2_with fail
    go_returns
    have hz := z.size
    have e0 : r.length - b + min b r.length = r.length := by omega
    exact ⟨A5, c5, b, by first | rfl | (show Ending.returned (.slice A5 (r.length - b + min b r.length) c5) = _; rw [e0]) | (simp [e0]), hb, HA.out, HO.out.base_le (by simp; omega), by (repeat (first | (with_reducible exact SinceOf.refl _) | (with_reducible assumption) | (with_reducible refine SinceOf.alloc ?_ _) | (with_reducible refine SinceOf.drew ?_) | (with_reducible refine SinceOf.drewN ?_ _) | (with_reducible refine SinceOf.later ?_ _) | (with_reducible refine SinceOf.further ?_ _) | (with_reducible refine SinceOf.setCell ?_ (by first | exact Nat.le_refl _ | (simp; done) | omega | (simp; omega)) _)))⟩
end Go.Proofs.YtpbgimdbhgahkaaGreat
/- Layer 15: Valid of the reference. -/
namespace Go.Proofs.YtpbgimdbhgahkaaGreat
open Go.RowKit Go.Sort
set_option linter.unusedVariables false
set_option linter.unusedSimpArgs false
attribute [local go_sem ↓] Go.wp_at_zero Go.wp_at_succ

theorem turn_near {m : Int} (hm : m ≤ 100000) {a b c : Pt} (ha : near m a) (hb : near m b) (hc : near m c) : turnI a.1 a.2 b.1 b.2 c.1 c.2 = cmpi (det a b c) 0 := by
  unfold near at ha hb hc
  rw [turn_exact (by unfold near29; omega) (by unfold near29; omega) (by unfold near29; omega) (by unfold near29; omega) (by unfold near29; omega) (by unfold near29; omega)]
  rfl
theorem cmpi_pos (x : Int) : 0 < cmpi x 0 ↔ 0 < x := by unfold cmpi; split <;> (try split) <;> omega
theorem cmpi_le (x : Int) : cmpi x 0 ≤ 0 ↔ x ≤ 0 := by unfold cmpi; split <;> (try split) <;> omega
theorem cmpi_lt (x : Int) : cmpi x 0 < 0 ↔ x < 0 := by unfold cmpi; split <;> (try split) <;> omega
theorem cmpi_eq0 (x : Int) : cmpi x 0 = 0 ↔ x = 0 := by unfold cmpi; split <;> (try split) <;> omega
theorem valid_no {r : List Pt} (h : ¬ Conv15 r) : validB r = false := by
  cases q : validB r
  · rfl
  · exact absurd (validB_iff.1 q) h
set_option maxRecDepth 100000 in
set_option maxHeartbeats 16000000 in
theorem refValid_any (A : Option Addr) (c : Nat) (r : List (Int × Int)) (w : World) (h : IsVecs w A c r) (hlen : r.length < 4611686018427387904) :
    Gives Tryz.prog 36 #[.slice A r.length c] w (.bool (validB r)) := by
  apply Gives.ret
  have H := Lib.hid h
  clear h
  generalize hres : validB r = res
  have HR := Lib.hid hres
  clear hres
  by_cases h3 : r.length < 3
  · have g1 : decide ((r.length : Int) < 3) = true := decide_eq_true (by omega)
    rw [validB_small (.inl h3)] at HR
    obtain rfl := HR.out
    clear h3
    go_enter Tryz.func36, Tryz.ntmps36
    go_wp2_with fail
    go_returns
    exact ⟨rfl, by (repeat (first | (with_reducible exact LaterOf.refl _) | (with_reducible refine LaterOf.alloc ?_ _) | (with_reducible refine LaterOf.drew ?_) | (with_reducible refine LaterOf.drewN ?_ _) | (with_reducible refine LaterOf.later ?_ _) | (with_reducible refine LaterOf.setCell ?_ (by first | exact Nat.le_refl _ | (simp; done) | omega | (simp; omega)) _)))⟩
  have g1 : decide ((r.length : Int) < 3) = false := decide_eq_false (by omega)
  by_cases h160 : 160 < r.length
  · have g2 : decide (160 < (r.length : Int)) = true := decide_eq_true (by omega)
    rw [validB_small (.inr h160)] at HR
    obtain rfl := HR.out
    clear h3 h160
    go_enter Tryz.func36, Tryz.ntmps36
    go_wp2_with fail
    go_returns
    exact ⟨rfl, by (repeat (first | (with_reducible exact LaterOf.refl _) | (with_reducible refine LaterOf.alloc ?_ _) | (with_reducible refine LaterOf.drew ?_) | (with_reducible refine LaterOf.drewN ?_ _) | (with_reducible refine LaterOf.later ?_ _) | (with_reducible refine LaterOf.setCell ?_ (by first | exact Nat.le_refl _ | (simp; done) | omega | (simp; omega)) _)))⟩
  have g2 : decide (160 < (r.length : Int)) = false := decide_eq_false (by omega)
  go_enter Tryz.func36, Tryz.ntmps36
  go_wp2_with fail
  clear g1 g2
  go_loopg [4] r.length (fun gas s4 wr => ∃ i : Nat, i ≤ r.length ∧ r.length - i ≤ gas ∧ s4 = .int .i64 i ∧ LaterOf w wr ∧ r.all inV = (r.drop i).all inV)
  case atStart => exact ⟨0, by omega, by omega, rfl, by (repeat (first | (with_reducible exact LaterOf.refl _) | (with_reducible refine LaterOf.alloc ?_ _) | (with_reducible refine LaterOf.drew ?_) | (with_reducible refine LaterOf.drewN ?_ _) | (with_reducible refine LaterOf.later ?_ _) | (with_reducible refine LaterOf.setCell ?_ (by first | exact Nat.le_refl _ | (simp; done) | omega | (simp; omega)) _))), by rw [List.drop_zero]⟩
  case round =>
    obtain ⟨i, hi, hgas, rfl, ⟨z, rfl⟩, hall⟩ := hrel
    by_cases hlt : i < r.length
    · rw [all_dropV _ hlt] at hall
      have hc := (H.out.of (LaterOf.since ⟨z, rfl⟩))
      obtain ⟨g, off, rfl, hr⟩ := hc.at_ (by omega)
      have hO := hr.there
      have k0 := hr.v0 i hlt
      have k1 := hr.v1 i hlt
      have C := refWithin_any r[i].1 r[i].2 8000
      rw [show withinB r[i].1 r[i].2 8000 = inV r[i] from rfl] at C
      generalize inV r[i] = b at *
      generalize r[i].1 = px at *
      generalize r[i].2 = py at *
      clear hc hr
      cases b
      · rw [Bool.false_and] at hall
        rw [validB_far hall] at HR
        obtain rfl := HR.out
        clear hall
        go_wp2_with fail
        refine (C _).calls.mono ?_
        rintro e _ ⟨rfl, x1, rfl⟩
        go_wp2_with fail
        go_returns
        exact ⟨rfl, by (repeat (first | (with_reducible exact LaterOf.refl _) | (with_reducible refine LaterOf.alloc ?_ _) | (with_reducible refine LaterOf.drew ?_) | (with_reducible refine LaterOf.drewN ?_ _) | (with_reducible refine LaterOf.later ?_ _) | (with_reducible refine LaterOf.setCell ?_ (by first | exact Nat.le_refl _ | (simp; done) | omega | (simp; omega)) _)))⟩
      · rw [Bool.true_and] at hall
        have HA := Lib.hid hall
        clear hall
        go_wp2_with fail
        refine (C _).calls.mono ?_
        rintro e _ ⟨rfl, x1, rfl⟩
        go_wp2_with fail
        go_roundg (r.length - (i + 1))
        case measure => omega
        case rel => exact ⟨i + 1, hlt, Nat.le_refl _, by go_num, by (repeat (first | (with_reducible exact LaterOf.refl _) | (with_reducible refine LaterOf.alloc ?_ _) | (with_reducible refine LaterOf.drew ?_) | (with_reducible refine LaterOf.drewN ?_ _) | (with_reducible refine LaterOf.later ?_ _) | (with_reducible refine LaterOf.setCell ?_ (by first | exact Nat.le_refl _ | (simp; done) | omega | (simp; omega)) _))), HA.out⟩
    · obtain rfl : i = r.length := by omega
      rw [List.drop_length] at hall
      have HN := Lib.hid (show ∀ p ∈ r, near 8000 p from fun p hp => inV_near.1 (List.all_eq_true.1 hall p hp))
      clear hall hlt hi hgas
      go_wp2_with fail
      go_loopg [5] r.length (fun gas s5 wr => ∃ i : Nat, i ≤ r.length ∧ r.length - i ≤ gas ∧ s5 = .int .i64 i ∧ LaterOf z.wd wr ∧ ∀ j, j < i → 0 < det (at0 r j) (rv r (j + 1)) (rv r (j + 2)) ∧ ∀ k, k < r.length → 0 ≤ det (at0 r j) (rv r (j + 1)) (at0 r k) ∧ (k ≠ j → at0 r k ≠ at0 r j))
      case atStart => exact ⟨0, by omega, by omega, rfl, by (repeat (first | (with_reducible exact LaterOf.refl _) | (with_reducible refine LaterOf.alloc ?_ _) | (with_reducible refine LaterOf.drew ?_) | (with_reducible refine LaterOf.drewN ?_ _) | (with_reducible refine LaterOf.later ?_ _) | (with_reducible refine LaterOf.setCell ?_ (by first | exact Nat.le_refl _ | (simp; done) | omega | (simp; omega)) _))), fun j hj => by omega⟩
      case round =>
        obtain ⟨i, hi, hgas, rfl, ⟨y, rfl⟩, hall⟩ := hrel
        have HA := Lib.hid hall
        clear hall
        by_cases hlt : i < r.length
        · have hq : (i + 1) % r.length < r.length := Nat.mod_lt _ (by omega)
          have hq2 : (i + 2) % r.length < r.length := Nat.mod_lt _ (by omega)
          have hqt : Int.tmod ((i : Int) + 1) (r.length : Int) = (((i + 1) % r.length : Nat) : Int) := by rw [Int.tmod_eq_emod_of_nonneg (by omega), Int.natCast_emod, Int.natCast_add]; rfl
          have hqt2 : Int.tmod ((i : Int) + 2) (r.length : Int) = (((i + 2) % r.length : Nat) : Int) := by rw [Int.tmod_eq_emod_of_nonneg (by omega), Int.natCast_emod, Int.natCast_add]; rfl
          have hc := (H.out.of (w' := y.wd) (by (repeat (first | (with_reducible exact SinceOf.refl _) | (with_reducible assumption) | (with_reducible refine SinceOf.alloc ?_ _) | (with_reducible refine SinceOf.drew ?_) | (with_reducible refine SinceOf.drewN ?_ _) | (with_reducible refine SinceOf.later ?_ _) | (with_reducible refine SinceOf.further ?_ _) | (with_reducible refine SinceOf.setCell ?_ (by first | exact Nat.le_refl _ | (simp; done) | omega | (simp; omega)) _)))))
          obtain ⟨g, off, rfl, hr⟩ := hc.at_ (by omega)
          have hO := hr.there
          have a0 := hr.v0 i hlt
          have a1 := hr.v1 i hlt
          have b0 := hr.v0 _ hq
          have b1 := hr.v1 _ hq
          have c0 := hr.v0 _ hq2
          have c1 := hr.v1 _ hq2
          have ea : at0 r i = r[i] := at0_eq hlt
          have eb : rv r (i + 1) = r[(i + 1) % r.length] := at0_eq hq
          have ec : rv r (i + 2) = r[(i + 2) % r.length] := at0_eq hq2
          have na := HN.out _ (List.getElem_mem hlt)
          have nb := HN.out _ (List.getElem_mem hq)
          have nc := HN.out _ (List.getElem_mem hq2)
          have T := refTurn_any r[i].1 r[i].2 r[(i + 1) % r.length].1 r[(i + 1) % r.length].2 r[(i + 2) % r.length].1 r[(i + 2) % r.length].2
          rw [turn_near (by omega) na nb nc] at T
          have hcv : Conv15 r → 0 < det r[i] r[(i + 1) % r.length] r[(i + 2) % r.length] := fun h => by
            have := h.2.2.2.left_turn h.1 hlt
            rwa [rv_lt hlt, ea, eb, ec] at this
          have HE := Lib.hid (And.intro ea (And.intro eb (And.intro ec (And.intro na (And.intro nb hcv)))))
          clear ea eb ec na nb nc hcv hr hc
          obtain ⟨dt, hdtd⟩ : ∃ dt, det r[i] r[(i + 1) % r.length] r[(i + 2) % r.length] = dt := ⟨_, rfl⟩
          rw [hdtd] at T HE
          have HDT := Lib.hid hdtd
          clear hdtd
          generalize r[(i + 2) % r.length] = pc at *
          generalize (i + 2) % r.length = q2 at *
          generalize r[(i + 1) % r.length] = pb at *
          generalize (i + 1) % r.length = q at *
          generalize r[i] = pa at *
          obtain ⟨xa, ya⟩ := pa
          obtain ⟨xb, yb⟩ := pb
          obtain ⟨xc, yc⟩ := pc
          simp only at a0 a1 b0 b1 c0 c1 T
          have hn0 : ¬ (r.length : Int) = 0 := by omega
          have hw1 : IntKind.i64.wrap ((i : Int) + 1) = (i : Int) + 1 := IntWalk.i64_in _ (by omega)
          have hw2 : IntKind.i64.wrap ((i : Int) + 2) = (i : Int) + 2 := IntWalk.i64_in _ (by omega)
          go_wp2_with fail
          go_cut [6, 7] (fun s6 s7 wx => ∃ b6 b7 : Nat, s6 = .pointer (some ⟨b6, 0, none⟩) ∧ s7 = .pointer (some ⟨b7, 0, none⟩) ∧ VarV wx b6 (xa, ya) ∧ VarV wx b7 (xb, yb) ∧ LaterOf y.wd wx)
          case first =>
            clear hw2 hqt2 c0 c1
            go_big_region
            all_goals
              go_wp2_with fail
              go_meet
              exact ⟨_, _, rfl, rfl, ⟨by simp [go_sem], by simp [go_sem], by simp [go_sem], by simp [go_sem], by simp [go_sem]⟩, ⟨by simp [go_sem], by simp [go_sem], by simp [go_sem], by simp [go_sem], by simp [go_sem]⟩, by (repeat (first | (with_reducible exact LaterOf.refl _) | (with_reducible refine LaterOf.alloc ?_ _) | (with_reducible refine LaterOf.drew ?_) | (with_reducible refine LaterOf.drewN ?_ _) | (with_reducible refine LaterOf.later ?_ _) | (with_reducible refine LaterOf.setCell ?_ (by first | exact Nat.le_refl _ | (simp; done) | omega | (simp; omega)) _)))⟩
          case rest =>
            obtain ⟨b6, b7, rfl, rfl, v6, v7, ⟨u, rfl⟩⟩ := hcut
            have d0 := v6.c0
            have d1 := v6.c1
            have e0 := v7.c0
            have e1 := v7.c1
            have o6 : Nonempty (Old u.wd b6) := ⟨⟨v6.lt⟩⟩
            have o7 : Nonempty (Old u.wd b7) := ⟨⟨v7.lt⟩⟩
            simp only at d0 d1 e0 e1
            have HV := Lib.hid (And.intro v6 v7)
            clear v6 v7 hw1 hqt
            by_cases hdt : 0 < dt
            case neg =>
              have g3 : decide (cmpi dt 0 ≤ 0) = true := decide_eq_true ((cmpi_le dt).2 (by omega))
              rw [valid_no (fun h => hdt (HE.out.2.2.2.2.2 h))] at HR
              obtain rfl := HR.out
              clear hdt
              generalize cmpi dt 0 = t at *
              go_wp2_with fail
              refine region_later (by kernel_rfl) (by kernel_rfl) ?_
              repeat (go_big_quiet_step ((with_reducible refine Gives.later (T _))))
              refine wpQuiet_nil ?_
              rintro _ ⟨z4, rfl⟩
              clear hw2 hqt2
              go_wp2_with fail
              go_returns
              exact ⟨rfl, by (repeat (first | (with_reducible exact LaterOf.refl _) | (with_reducible refine LaterOf.alloc ?_ _) | (with_reducible refine LaterOf.drew ?_) | (with_reducible refine LaterOf.drewN ?_ _) | (with_reducible refine LaterOf.later ?_ _) | (with_reducible refine LaterOf.setCell ?_ (by first | exact Nat.le_refl _ | (simp; done) | omega | (simp; omega)) _)))⟩
            have g3 : decide (cmpi dt 0 ≤ 0) = false := decide_eq_false (fun h => by have := (cmpi_le dt).1 h; omega)
            have HD := Lib.hid hdt
            clear hdt
            generalize cmpi dt 0 = t at *
            go_wp2_with fail
            refine region_later (by kernel_rfl) (by kernel_rfl) ?_
            repeat (go_big_quiet_step ((with_reducible refine Gives.later (T _))))
            refine wpQuiet_nil ?_
            rintro _ ⟨z4, rfl⟩
            clear hw2 hqt2 T g3 a0 a1 b0 b1 c0 c1 d0 d1 e0 e1 o6 o7
            go_wp2_with fail
            go_loopg [8] r.length (fun gas s8 wr => ∃ k : Nat, k ≤ r.length ∧ r.length - k ≤ gas ∧ s8 = .int .i64 k ∧ LaterOf u.wd wr ∧ ∀ m, m < k → 0 ≤ det (at0 r i) (rv r (i + 1)) (at0 r m) ∧ (m ≠ i → at0 r m ≠ at0 r i))
            case atStart => exact ⟨0, by omega, by omega, rfl, by (repeat (first | (with_reducible exact LaterOf.refl _) | (with_reducible refine LaterOf.alloc ?_ _) | (with_reducible refine LaterOf.drew ?_) | (with_reducible refine LaterOf.drewN ?_ _) | (with_reducible refine LaterOf.later ?_ _) | (with_reducible refine LaterOf.setCell ?_ (by first | exact Nat.le_refl _ | (simp; done) | omega | (simp; omega)) _))), fun m hm => by omega⟩
            case round =>
              obtain ⟨k, hk, hgas2, rfl, ⟨v, rfl⟩, hin⟩ := hrel
              have HI := Lib.hid hin
              clear hin
              by_cases hlt2 : k < r.length
              · have v6 := HV.out.1.of (W' := v.wd) (by (repeat (first | (with_reducible exact SinceOf.refl _) | (with_reducible assumption) | (with_reducible refine SinceOf.alloc ?_ _) | (with_reducible refine SinceOf.drew ?_) | (with_reducible refine SinceOf.drewN ?_ _) | (with_reducible refine SinceOf.later ?_ _) | (with_reducible refine SinceOf.further ?_ _) | (with_reducible refine SinceOf.setCell ?_ (by first | exact Nat.le_refl _ | (simp; done) | omega | (simp; omega)) _))))
                have v7 := HV.out.2.of (W' := v.wd) (by (repeat (first | (with_reducible exact SinceOf.refl _) | (with_reducible assumption) | (with_reducible refine SinceOf.alloc ?_ _) | (with_reducible refine SinceOf.drew ?_) | (with_reducible refine SinceOf.drewN ?_ _) | (with_reducible refine SinceOf.later ?_ _) | (with_reducible refine SinceOf.further ?_ _) | (with_reducible refine SinceOf.setCell ?_ (by first | exact Nat.le_refl _ | (simp; done) | omega | (simp; omega)) _))))
                have d0 := v6.c0
                have d1 := v6.c1
                have e0 := v7.c0
                have e1 := v7.c1
                have o6 : Nonempty (Old v.wd b6) := ⟨⟨v6.lt⟩⟩
                have o7 : Nonempty (Old v.wd b7) := ⟨⟨v7.lt⟩⟩
                simp only at d0 d1 e0 e1
                have hc := (H.out.of (w' := v.wd) (by (repeat (first | (with_reducible exact SinceOf.refl _) | (with_reducible assumption) | (with_reducible refine SinceOf.alloc ?_ _) | (with_reducible refine SinceOf.drew ?_) | (with_reducible refine SinceOf.drewN ?_ _) | (with_reducible refine SinceOf.later ?_ _) | (with_reducible refine SinceOf.further ?_ _) | (with_reducible refine SinceOf.setCell ?_ (by first | exact Nat.le_refl _ | (simp; done) | omega | (simp; omega)) _)))))
                obtain ⟨g', off', he, hr⟩ := hc.at_ (by omega)
                injection he with he
                injection he with hg1 ho1
                subst hg1 ho1
                have hO' := hr.there
                have k0 := hr.v0 k hlt2
                have k1 := hr.v1 k hlt2
                have ek : at0 r k = r[k] := at0_eq hlt2
                have nk := HN.out _ (List.getElem_mem hlt2)
                have T := refTurn_any xa ya xb yb r[k].1 r[k].2
                have htd := turn_near (by omega) HE.out.2.2.2.1 HE.out.2.2.2.2.1 nk
                simp only at htd
                rw [htd] at T
                have hcl : Conv15 r → 0 ≤ det (xa, ya) (xb, yb) r[k] := fun h => by
                  have := h.2.2.2.left i hlt _ (List.getElem_mem hlt2)
                  rwa [HE.out.1, HE.out.2.1] at this
                have hcn : Conv15 r → k ≠ i → r[k] ≠ (xa, ya) := fun h hki => by
                  have := h.2.2.2.ne h.1 hlt hlt2 hki
                  rwa [HE.out.1, ek] at this
                have HK := Lib.hid (And.intro ek (And.intro hcl hcn))
                clear hr hc v6 v7 ek nk htd hcl hcn
                obtain ⟨dk, hdkd⟩ : ∃ dk, det (xa, ya) (xb, yb) r[k] = dk := ⟨_, rfl⟩
                rw [hdkd] at T HK
                have HDD := Lib.hid hdkd
                clear hdkd
                generalize r[k] = pk at *
                obtain ⟨xk, yk⟩ := pk
                simp only at k0 k1 T
                by_cases hdk : dk < 0
                · have g3 : decide (cmpi dk 0 < 0) = true := decide_eq_true ((cmpi_lt dk).2 hdk)
                  rw [valid_no (fun h => by have := HK.out.2.1 h; omega)] at HR
                  obtain rfl := HR.out
                  clear hdk
                  generalize cmpi dk 0 = tk at *
                  go_wp2_with fail
                  refine region_later (by kernel_rfl) (by kernel_rfl) ?_
                  repeat (go_big_quiet_step ((with_reducible refine Gives.later (T _))))
                  refine wpQuiet_nil ?_
                  rintro _ ⟨z5, rfl⟩
                  go_wp2_with fail
                  go_returns
                  exact ⟨rfl, by (repeat (first | (with_reducible exact LaterOf.refl _) | (with_reducible refine LaterOf.alloc ?_ _) | (with_reducible refine LaterOf.drew ?_) | (with_reducible refine LaterOf.drewN ?_ _) | (with_reducible refine LaterOf.later ?_ _) | (with_reducible refine LaterOf.setCell ?_ (by first | exact Nat.le_refl _ | (simp; done) | omega | (simp; omega)) _)))⟩
                have g3 : decide (cmpi dk 0 < 0) = false := decide_eq_false (fun h => hdk ((cmpi_lt dk).1 h))
                have HDK := Lib.hid hdk
                clear hdk
                generalize cmpi dk 0 = tk at *
                by_cases hki : k = i
                · have g4 : ((k : Int) != (i : Int)) = false := by simp [hki]
                  have HKI := Lib.hid hki
                  clear hki
                  go_wp2_with fail
                  refine region_later (by kernel_rfl) (by kernel_rfl) ?_
                  repeat (go_big_quiet_step ((with_reducible refine Gives.later (T _))))
                  refine wpQuiet_nil ?_
                  rintro _ ⟨z5, rfl⟩
                  clear g4
                  go_wp2_with fail
                  go_roundg (r.length - (k + 1))
                  case measure => omega
                  case rel =>
                    refine ⟨k + 1, hlt2, Nat.le_refl _, by go_num, by (repeat (first | (with_reducible exact LaterOf.refl _) | (with_reducible refine LaterOf.alloc ?_ _) | (with_reducible refine LaterOf.drew ?_) | (with_reducible refine LaterOf.drewN ?_ _) | (with_reducible refine LaterOf.later ?_ _) | (with_reducible refine LaterOf.setCell ?_ (by first | exact Nat.le_refl _ | (simp; done) | omega | (simp; omega)) _))), fun m hm => ?_⟩
                    by_cases e : m = k
                    · subst e
                      refine ⟨?_, fun h => absurd HKI.out h⟩
                      rw [HK.out.1, HE.out.1, HE.out.2.1, HDD.out]
                      have := HDK.out
                      omega
                    · exact HI.out m (by omega)
                · have g4 : ((k : Int) != (i : Int)) = true := by
                    have : ¬ (k : Int) = (i : Int) := by omega
                    simpa using this
                  have HKI := Lib.hid hki
                  clear hki
                  by_cases he : eqv xk yk xa ya = true
                  · rw [valid_no (fun h => by
                      obtain ⟨e1, e2⟩ := eqv_iff.1 he
                      exact HK.out.2.2 h HKI.out (Prod.ext e1 e2))] at HR
                    obtain rfl := HR.out
                    obtain ⟨rfl, rfl⟩ := eqv_iff.1 he
                    clear he
                    go_wp2_with fail
                    refine region_later (by kernel_rfl) (by kernel_rfl) ?_
                    repeat (go_big_quiet_step ((with_reducible refine Gives.later (T _))))
                    refine wpQuiet_nil ?_
                    rintro _ ⟨z5, rfl⟩
                    go_wp2_with fail
                    go_returns
                    exact ⟨rfl, by (repeat (first | (with_reducible exact LaterOf.refl _) | (with_reducible refine LaterOf.alloc ?_ _) | (with_reducible refine LaterOf.drew ?_) | (with_reducible refine LaterOf.drewN ?_ _) | (with_reducible refine LaterOf.later ?_ _) | (with_reducible refine LaterOf.setCell ?_ (by first | exact Nat.le_refl _ | (simp; done) | omega | (simp; omega)) _)))⟩
                  · have hne : eqv xk yk xa ya = false := by simpa using he
                    have HN2 := Lib.hid he
                    clear he
                    go_wp2_with fail
                    refine region_later (by kernel_rfl) (by kernel_rfl) ?_
                    repeat (go_big_quiet_step ((with_reducible refine Gives.later (T _))))
                    refine wpQuiet_nil ?_
                    rintro _ ⟨z5, rfl⟩
                    clear g4
                    go_wp2_with fail
                    go_roundg (r.length - (k + 1))
                    case measure => omega
                    case rel =>
                      refine ⟨k + 1, hlt2, Nat.le_refl _, by go_num, by (repeat (first | (with_reducible exact LaterOf.refl _) | (with_reducible refine LaterOf.alloc ?_ _) | (with_reducible refine LaterOf.drew ?_) | (with_reducible refine LaterOf.drewN ?_ _) | (with_reducible refine LaterOf.later ?_ _) | (with_reducible refine LaterOf.setCell ?_ (by first | exact Nat.le_refl _ | (simp; done) | omega | (simp; omega)) _))), fun m hm => ?_⟩
                      by_cases e : m = k
                      · subst e
                        refine ⟨?_, fun h => ?_⟩
                        · rw [HK.out.1, HE.out.1, HE.out.2.1, HDD.out]
                          have := HDK.out
                          omega
                        · rw [HK.out.1, HE.out.1]
                          intro e
                          injection e with e1 e2
                          exact HN2.out (eqv_iff.2 ⟨e1, e2⟩)
                      · exact HI.out m (by omega)
              · obtain rfl : k = r.length := by omega
                have HX := Lib.hid (show ∀ j, j < i + 1 → 0 < det (at0 r j) (rv r (j + 1)) (rv r (j + 2)) ∧ ∀ k, k < r.length → 0 ≤ det (at0 r j) (rv r (j + 1)) (at0 r k) ∧ (k ≠ j → at0 r k ≠ at0 r j) from fun j hj => by
                  by_cases e : j = i
                  · subst e
                    refine ⟨?_, HI.out⟩
                    rw [HE.out.1, HE.out.2.1, HE.out.2.2.1, HDT.out]
                    exact HD.out
                  · exact HA.out j (by omega))
                clear HI
                go_wp2_with fail
                go_roundg (r.length - (i + 1))
                case measure => omega
                case rel => exact ⟨i + 1, hlt, Nat.le_refl _, by go_num, by (repeat (first | (with_reducible exact LaterOf.refl _) | (with_reducible refine LaterOf.alloc ?_ _) | (with_reducible refine LaterOf.drew ?_) | (with_reducible refine LaterOf.drewN ?_ _) | (with_reducible refine LaterOf.later ?_ _) | (with_reducible refine LaterOf.setCell ?_ (by first | exact Nat.le_refl _ | (simp; done) | omega | (simp; omega)) _))), HX.out⟩
        · obtain rfl : i = r.length := by omega
          have hcx : ConvexI r := ref_convex (by omega) (fun j hj => (HA.out j hj).1) (fun j hj k hk => ((HA.out j hj).2 k hk).1) (fun j hj k hk h => ((HA.out j hj).2 k hk).2 h)
          rw [show validB r = true from validB_iff.2 ⟨by omega, by omega, HN.out, hcx⟩] at HR
          obtain rfl := HR.out
          clear hcx
          go_wp2_with fail
          go_returns
          exact ⟨rfl, by (repeat (first | (with_reducible exact LaterOf.refl _) | (with_reducible refine LaterOf.alloc ?_ _) | (with_reducible refine LaterOf.drew ?_) | (with_reducible refine LaterOf.drewN ?_ _) | (with_reducible refine LaterOf.later ?_ _) | (with_reducible refine LaterOf.setCell ?_ (by first | exact Nat.le_refl _ | (simp; done) | omega | (simp; omega)) _)))⟩
end Go.Proofs.YtpbgimdbhgahkaaGreat
