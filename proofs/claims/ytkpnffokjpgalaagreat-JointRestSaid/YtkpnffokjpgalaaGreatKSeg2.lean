/- Rows of segments; Edges of the reference of layer 8. -/
import Derived.Test.YtkpnffokjpgalaaGreatKSeg1
namespace Go.Proofs.YtkpnffokjpgalaaGreat
set_option linter.unusedVariables false
set_option linter.unusedSimpArgs false
open Go.RowKit Go.Sort
attribute [local go_sem ↓] Go.wp_at_zero Go.wp_at_succ

def encE (s : SegP) : List Value := [.int .i64 s.1.1, .int .i64 s.1.2, .int .i64 s.2.1, .int .i64 s.2.2]
theorem encE_len (s : SegP) : (encE s).length = 4 := rfl
theorem encE_one (s : SegP) : ∀ u ∈ encE s, u.oneCell' = true := by
  intro u hu
  simp only [encE, List.mem_cons, List.not_mem_nil, or_false] at hu
  rcases hu with rfl | rfl | rfl | rfl <;> rfl
theorem infoSeg : (Tryz.prog.info? 27).map (fun i => (i.zero, i.size, i.bytes)) = some (some (.agg #[.int .i64 0, .int .i64 0, .int .i64 0, .int .i64 0]), 4, 32) := by kernel_rfl
abbrev IsSegs (w : World) (A : Option Addr) (c : Nat) (l : List SegP) : Prop := IsRow encE 4 w A c l
abbrev OwnSegs (base : Nat) (w : World) (A : Option Addr) (c : Nat) (l : List SegP) : Prop := Owns encE 4 base 27 w A c l
theorem RowAt.e0 {w : World} {g off : Nat} {l : List SegP} (h : RowAt encE 4 w g off l) (i : Nat) (hi : i < l.length) : w.cell? ⟨g, off + i * 4, none⟩ = some (.int .i64 l[i].1.1) := by
  have := h.cells i hi 0 (.int .i64 l[i].1.1) rfl; simpa using this
theorem RowAt.e1 {w : World} {g off : Nat} {l : List SegP} (h : RowAt encE 4 w g off l) (i : Nat) (hi : i < l.length) : w.cell? ⟨g, off + i * 4 + 1, none⟩ = some (.int .i64 l[i].1.2) :=
  h.cells i hi 1 (.int .i64 l[i].1.2) rfl
theorem RowAt.e2 {w : World} {g off : Nat} {l : List SegP} (h : RowAt encE 4 w g off l) (i : Nat) (hi : i < l.length) : w.cell? ⟨g, off + i * 4 + 2, none⟩ = some (.int .i64 l[i].2.1) :=
  h.cells i hi 2 (.int .i64 l[i].2.1) rfl
theorem RowAt.e3 {w : World} {g off : Nat} {l : List SegP} (h : RowAt encE 4 w g off l) (i : Nat) (hi : i < l.length) : w.cell? ⟨g, off + i * 4 + 3, none⟩ = some (.int .i64 l[i].2.2) :=
  h.cells i hi 3 (.int .i64 l[i].2.2) rfl
theorem isRow_atE (W : World) (g : Nat) (a b c d : Int) (hg : W.heap.size = g) : IsSegs (W.alloc (.cells #[.int .i64 a, .int .i64 b, .int .i64 c, .int .i64 d] 27)) (some ⟨g, 0, none⟩) 1 [((a, b), (c, d))] := by
  subst hg
  have h : OwnSegs W.heap.size (W.alloc (.cells #[.int .i64 a, .int .i64 b, .int .i64 c, .int .i64 d] 27)) (some ⟨W.heap.size, 0, none⟩) 1 [((a, b), (c, d))] := World.ownsRow_lit W _ 1 (Nat.le_refl _) (by decide) rfl
  exact h.isRow encE_len
/-- The edges of a ring. -/
def edgesV (r : List Pt) : List SegP := if r.length < 2 then [] else (List.range r.length).map (fun i => (at0 r i, rv r (i + 1)))
theorem edgesV_len {r : List Pt} (h : ¬ r.length < 2) : (edgesV r).length = r.length := by unfold edgesV; rw [if_neg h, List.length_map, List.length_range]
theorem edgesV_len_le (r : List Pt) : (edgesV r).length ≤ r.length := by
  by_cases h : r.length < 2
  · unfold edgesV; rw [if_pos h]; simp
  · rw [edgesV_len h]; exact Nat.le_refl _
theorem edgesV_at {r : List Pt} (h : ¬ r.length < 2) {i : Nat} (hi : i < r.length) : (edgesV r)[i]'(by rw [edgesV_len h]; exact hi) = (at0 r i, rv r (i + 1)) := by
  unfold edgesV
  simp [if_neg h]
set_option maxRecDepth 100000 in
set_option maxHeartbeats 16000000 in
theorem refEdges_any (A : Option Addr) (c : Nat) (r : List (Int × Int)) (w : World) (h : IsVecs w A c r) (hlen : r.length ≤ 100000) :
    Calls Tryz.prog 40 #[.slice A r.length c] w fun e w' => ∃ A' c', e = .returned (.slice A' (edgesV r).length c') ∧ OwnSegs w.heap.size w' A' c' (edgesV r) ∧ SinceOf w w' := by
  have H := Lib.hid h
  clear h
  by_cases h2 : r.length < 2
  · have hz : edgesV r = [] := by unfold edgesV; rw [if_pos h2]
    have g1 : decide ((r.length : Int) < 2) = true := decide_eq_true (by omega)
    rw [hz]
    clear hz
    go_enter Tryz.func40, Tryz.ntmps40
    go_wp2_with fail
    go_returns
    exact ⟨none, 0, rfl, Owns.nil _ _ _ _ _, by (repeat (first | (with_reducible exact SinceOf.refl _) | (with_reducible assumption) | (with_reducible refine SinceOf.alloc ?_ _) | (with_reducible refine SinceOf.drew ?_) | (with_reducible refine SinceOf.drewN ?_ _) | (with_reducible refine SinceOf.later ?_ _) | (with_reducible refine SinceOf.further ?_ _) | (with_reducible refine SinceOf.setCell ?_ (by first | exact Nat.le_refl _ | (simp; done) | omega | (simp; omega)) _)))⟩
  have g1 : decide ((r.length : Int) < 2) = false := decide_eq_false (by omega)
  have hl := edgesV_len h2
  have hat := fun i (hi : i < r.length) => edgesV_at h2 hi
  obtain ⟨E, hE⟩ : ∃ E, E = edgesV r := ⟨_, rfl⟩
  rw [← hE] at hl ⊢
  have hnx : ∀ i (hi : i < r.length), E.take (i + 1) = E.take i ++ [(at0 r i, rv r (i + 1))] := fun i hi => by
    rw [List.take_succ_eq_append_getElem (by omega)]
    congr 2
    subst hE
    exact hat i hi
  obtain ⟨i0, hi, hz0, hz1, hz2⟩ := info_parts infoSeg
  have HI := Lib.hid (And.intro hi (And.intro hz0 (And.intro hz1 hz2)))
  have HE := Lib.hid (And.intro hl hnx)
  rw [hl]
  clear hi hz0 hz1 hz2 hl hnx hat hE
  go_enter Tryz.func40, Tryz.ntmps40
  go_wp2_with fail
  go_loopg [3, 4] r.length (fun gas s3 s4 wr => ∃ (i : Nat) (A2 : Option Addr) (c2 : Nat), i ≤ r.length ∧ r.length - i ≤ gas ∧ s3 = .slice A2 i c2 ∧ s4 = .int .i64 i ∧ OwnSegs w.heap.size wr A2 c2 (E.take i) ∧ SinceOf w wr)
  case atStart => exact ⟨0, none, 0, by omega, by omega, rfl, rfl, Owns.nil _ _ _ _ _, by (repeat (first | (with_reducible exact SinceOf.refl _) | (with_reducible assumption) | (with_reducible refine SinceOf.alloc ?_ _) | (with_reducible refine SinceOf.drew ?_) | (with_reducible refine SinceOf.drewN ?_ _) | (with_reducible refine SinceOf.later ?_ _) | (with_reducible refine SinceOf.further ?_ _) | (with_reducible refine SinceOf.setCell ?_ (by first | exact Nat.le_refl _ | (simp; done) | omega | (simp; omega)) _)))⟩
  case round =>
    obtain ⟨i, A2, c2, hi, hgas, rfl, rfl, ho, ⟨z, rfl⟩⟩ := hrel
    have hzs := z.size
    by_cases hlt : i < r.length
    · have hr0 := H.out.of (w' := z.wd) (by (repeat (first | (with_reducible exact SinceOf.refl _) | (with_reducible assumption) | (with_reducible refine SinceOf.alloc ?_ _) | (with_reducible refine SinceOf.drew ?_) | (with_reducible refine SinceOf.drewN ?_ _) | (with_reducible refine SinceOf.later ?_ _) | (with_reducible refine SinceOf.further ?_ _) | (with_reducible refine SinceOf.setCell ?_ (by first | exact Nat.le_refl _ | (simp; done) | omega | (simp; omega)) _))))
      obtain ⟨g, off, rfl, hr⟩ := hr0.at_ (by omega)
      have hO := hr.there
      have hq : (i + 1) % r.length < r.length := Nat.mod_lt _ (by omega)
      have a0 := hr.v0 i hlt
      have a1 := hr.v1 i hlt
      have b0 := hr.v0 _ hq
      have b1 := hr.v1 _ hq
      have hqt : Int.tmod ((i : Int) + 1) (r.length : Int) = (((i + 1) % r.length : Nat) : Int) := by rw [Int.tmod_eq_emod_of_nonneg (by omega), Int.natCast_emod, Int.natCast_add]; rfl
      have ea : at0 r i = r[i] := at0_eq hlt
      have eb : rv r (i + 1) = r[(i + 1) % r.length] := at0_eq hq
      have hn2 := HE.out.2 i hlt
      rw [ea, eb] at hn2
      have hl0 : (E.take i).length = i := by rw [List.length_take, HE.out.1]; omega
      obtain ⟨L, hL⟩ : ∃ L, L = E.take i := ⟨_, rfl⟩
      rw [← hL] at ho hn2 hl0
      have hn3 : E.take (i + 1) = L ++ [((r[i].1, r[i].2), (r[(i + 1) % r.length].1, r[(i + 1) % r.length].2))] := hn2
      have HP := Lib.hid (And.intro ho (And.intro hn3 hl0))
      clear ho hn2 hn3 hl0 hL hr hr0 ea eb
      generalize r[(i + 1) % r.length].1 = xb at *
      generalize r[(i + 1) % r.length].2 = yb at *
      generalize (i + 1) % r.length = q at *
      generalize r[i].1 = xa at *
      generalize r[i].2 = ya at *
      have hn0 : ¬ (r.length : Int) = 0 := by omega
      have hrn : ¬ r = [] := fun e => by (rw [e] at hlt; simp at hlt)
      have hw1 : IntKind.i64.wrap ((i : Int) + 1) = (i : Int) + 1 := IntWalk.i64_in _ (by omega)
      have i1 : (0 : Int) ≤ (q : Int) := by omega
      have i2 : (q : Int) < (r.length : Int) := by omega
      go_wp2_with fail
      go_region_law
        (refine step_append_row (by rfl) (.tmp 14) (.tmp 28) 30 (by rfl) encE_len (by omega) encE_one i0 _ 32 Tryz.underlying30 HI.out.1 HI.out.2.1 HI.out.2.2.1 HI.out.2.2.2 rfl (l := L) (A := A2) (c := c2) (base := w.heap.size) (by rw [HP.out.2.2]; rfl) (HP.out.1.of (by (repeat (first | (with_reducible exact SinceOf.refl _) | (with_reducible assumption) | (with_reducible refine SinceOf.alloc ?_ _) | (with_reducible refine SinceOf.drew ?_) | (with_reducible refine SinceOf.drewN ?_ _) | (with_reducible refine SinceOf.later ?_ _) | (with_reducible refine SinceOf.further ?_ _) | (with_reducible refine SinceOf.setCell ?_ (by first | exact Nat.le_refl _ | (simp; done) | omega | (simp; omega)) _))))) (m := [((xa, ya), (xb, yb))]) (by rfl) ((isRow_atE z.wd _ _ _ _ _ rfl).of (SinceOf.drew (SinceOf.refl _))) (by rw [HP.out.2.2]; unfold maxLen; simp; omega) (by rw [HP.out.2.2]; simp; omega) (by simp; omega) ?_; intro A4 c4 w4 ho4 hgr4 hb4)
      all_goals
        clear hw1 hqt hrn
        go_wp2_with fail
        go_roundg (r.length - (i + 1))
        case measure => omega
        case rel => exact ⟨i + 1, A4, c4, hlt, Nat.le_refl _, (by have q := HP.out.2.2; first | rfl | simp [q]), by go_num, by rw [HP.out.2.1]; exact ho4, SinceOf.grown (by (repeat (first | (with_reducible exact SinceOf.refl _) | (with_reducible assumption) | (with_reducible refine SinceOf.alloc ?_ _) | (with_reducible refine SinceOf.drew ?_) | (with_reducible refine SinceOf.drewN ?_ _) | (with_reducible refine SinceOf.later ?_ _) | (with_reducible refine SinceOf.further ?_ _) | (with_reducible refine SinceOf.setCell ?_ (by first | exact Nat.le_refl _ | (simp; done) | omega | (simp; omega)) _)))) hgr4 (fun q hq => (HP.out.1.below q hq).1)⟩
    · obtain rfl : i = r.length := by omega
      rw [List.take_of_length_le (by rw [HE.out.1]; exact Nat.le_refl _)] at ho
      have HP := Lib.hid ho
      clear ho
      go_wp2_with fail
      go_returns
      exact ⟨A2, c2, rfl, HP.out, by (repeat (first | (with_reducible exact SinceOf.refl _) | (with_reducible assumption) | (with_reducible refine SinceOf.alloc ?_ _) | (with_reducible refine SinceOf.drew ?_) | (with_reducible refine SinceOf.drewN ?_ _) | (with_reducible refine SinceOf.later ?_ _) | (with_reducible refine SinceOf.further ?_ _) | (with_reducible refine SinceOf.setCell ?_ (by first | exact Nat.le_refl _ | (simp; done) | omega | (simp; omega)) _)))⟩
end Go.Proofs.YtkpnffokjpgalaaGreat
