/- Layer 18: Octagon of both. -/
import Derived.Test.YticmfmcflikneaaHull25
import Derived.Test.YticmfmcflikneaaHull16
namespace Go.Proofs.Yticmfmcflikneaa
open Go.RowKit Go.Sort
set_option linter.unusedVariables false
set_option linter.unusedSimpArgs false
attribute [local go_sem ↓] Go.wp_at_zero Go.wp_at_succ

def octH (k : Int) : Int := (5 * k + 11) / 12
def octP (k h : Int) : List Pt := [(k, h), (h, k), (k, -h), (h, -k), (-k, h), (-h, k), (-k, -h), (-h, -k)]
def octQ (k h : Int) : List Pt := [(k, h), (h, k), (-h, k), (-k, h), (-k, -h), (-h, -k), (h, -k), (k, -h)]
theorem octQ_mem {k h : Int} {p : Pt} : p ∈ octQ k h ↔ p ∈ octP k h := by
  unfold octQ octP
  simp only [List.mem_cons, List.not_mem_nil, or_false]
  constructor <;> intro q <;> rcases q with q | q | q | q | q | q | q | q <;> simp [q]
theorem octH_in {k : Int} (h1 : 1 ≤ k) (h2 : k ≤ 200) : 1 ≤ octH k ∧ octH k ≤ 84 ∧ 5 * k ≤ 12 * octH k ∧ 12 * octH k ≤ 5 * k + 11 := by
  unfold octH
  omega
theorem oct_small {k h : Int} (h1 : 1 ≤ k ∧ k ≤ 200) (h2 : 1 ≤ h ∧ h ≤ 84) : smallB (octP k h) = true := by
  unfold smallB
  have hf : ∀ p ∈ octP k h, farB p = false := fun p hp => far_of (by
    unfold octP at hp
    simp only [List.mem_cons, List.not_mem_nil, or_false] at hp
    rcases hp with rfl | rfl | rfl | rfl | rfl | rfl | rfl | rfl <;> simp only <;> omega)
  rw [show (octP k h).any farB = false from List.any_eq_false.2 (fun p hp => by rw [hf p hp]; decide)]
  rfl
theorem oct_not_flat {k h : Int} (h1 : 1 ≤ k) (h2 : 1 ≤ h) : ¬ Flat (octP k h) := fun hf => by
  have := hf (k, h) (by simp [octP]) (k, -h) (by simp [octP]) (-k, h) (by simp [octP])
  have e : det (k, h) (k, -h) (-k, h) = -(4 * (h * k)) := by unfold det; grind
  have := Int.mul_pos (show 0 < h by omega) (show 0 < k by omega)
  omega
/-- What Octagon returns. -/
def OctRes (k : Int) (r : List Pt) (err : Int) : Prop := ((k < 1 ∨ 200 < k) ∧ r = [] ∧ err = 2) ∨ (1 ≤ k ∧ k ≤ 200 ∧ err = 0 ∧ HullY (octP k (octH k)) r ∧ r.length ≤ 8)
theorem OctRes.unique {k : Int} {r r' : List Pt} {e e' : Int} (h : OctRes k r e) (h' : OctRes k r' e') : r = r' ∧ e = e' := by
  rcases h with ⟨a, rfl, rfl⟩ | ⟨a, b, rfl, h, -⟩ <;> rcases h' with ⟨a', rfl, rfl⟩ | ⟨a', b', rfl, h', -⟩
  · exact ⟨rfl, rfl⟩
  · omega
  · omega
  · exact ⟨h.unique h', rfl⟩
theorem oct_of {k : Int} {r : List Pt} {e : Int} (h1 : 1 ≤ k) (h2 : k ≤ 200) (h : HullRes (octP k (octH k)) r e) : e = 0 ∧ OctRes k r e := by
  have hh := octH_in h1 h2
  rcases h.small (oct_small ⟨h1, h2⟩ ⟨hh.1, hh.2.1⟩) with ⟨-, -, hf⟩ | ⟨rfl, hy, hl⟩
  · exact absurd hf (oct_not_flat h1 hh.1)
  · exact ⟨rfl, .inr ⟨h1, h2, rfl, hy, hl⟩⟩
theorem hullRes_same {l m r : List Pt} {e : Int} (h : HullRes l r e) (hm : ∀ p, p ∈ m ↔ p ∈ l) (hl : m.length = l.length) : HullRes m r e := by
  have hf : m.any farB = l.any farB := by
    rw [Bool.eq_iff_iff, List.any_eq_true, List.any_eq_true]
    constructor <;> rintro ⟨p, hp, h⟩
    · exact ⟨p, (hm p).1 hp, h⟩
    · exact ⟨p, (hm p).2 hp, h⟩
  have hfl : Flat l → Flat m := fun h u hu v hv w hw => h u ((hm u).1 hu) v ((hm v).1 hv) w ((hm w).1 hw)
  unfold HullRes at *
  rw [hl, hf]
  rcases h with h | h | ⟨a, b, c, d, e⟩ | ⟨a, b, h, hy, h'⟩
  · exact .inl h
  · exact .inr (.inl h)
  · exact .inr (.inr (.inl ⟨a, b, hfl c, d, e⟩))
  · exact .inr (.inr (.inr ⟨a, b, h, hy.more (fun q hq => (hm q).1 hq) (fun v hv => (hm v).2 (hy.hull.sub v hv)), h'⟩))
theorem ix0 (W : World) : (Instr.index 85 (.agg #[.int .i64 1, .int .i64 1, .int .i64 1, .int .i64 (-1), .int .i64 (-1), .int .i64 1, .int .i64 (-1), .int .i64 (-1)]) (.int .i64 0)).run Try.prog W = .ok (.agg #[.int .i64 1, .int .i64 1]) W := by kernel_rfl
theorem ix1 (W : World) : (Instr.index 85 (.agg #[.int .i64 1, .int .i64 1, .int .i64 1, .int .i64 (-1), .int .i64 (-1), .int .i64 1, .int .i64 (-1), .int .i64 (-1)]) (.int .i64 1)).run Try.prog W = .ok (.agg #[.int .i64 1, .int .i64 (-1)]) W := by kernel_rfl
theorem ix2 (W : World) : (Instr.index 85 (.agg #[.int .i64 1, .int .i64 1, .int .i64 1, .int .i64 (-1), .int .i64 (-1), .int .i64 1, .int .i64 (-1), .int .i64 (-1)]) (.int .i64 2)).run Try.prog W = .ok (.agg #[.int .i64 (-1), .int .i64 1]) W := by kernel_rfl
theorem ix3 (W : World) : (Instr.index 85 (.agg #[.int .i64 1, .int .i64 1, .int .i64 1, .int .i64 (-1), .int .i64 (-1), .int .i64 1, .int .i64 (-1), .int .i64 (-1)]) (.int .i64 3)).run Try.prog W = .ok (.agg #[.int .i64 (-1), .int .i64 (-1)]) W := by kernel_rfl
theorem isRow_at2W (W : World) (g : Nat) (a b x y : Int) (hg : W.heap.size = g) : IsVecs (W.alloc (.cells #[.int .i64 a, .int .i64 b, .int .i64 x, .int .i64 y] 32)) (some ⟨g, 0, none⟩) 2 [(a, b), (x, y)] := by
  subst hg
  have h : OwnVecs W.heap.size (W.alloc (.cells #[.int .i64 a, .int .i64 b, .int .i64 x, .int .i64 y] 32)) (some ⟨W.heap.size, 0, none⟩) 2 [(a, b), (x, y)] := World.ownsRow_lit W _ 2 (Nat.le_refl _) (by decide) rfl
  exact h.isRow encV_len
set_option maxRecDepth 100000 in
set_option maxHeartbeats 16000000 in
theorem octagon_any (k : Int) (w : World) :
    Calls Try.prog 45 #[.int .i64 k] w fun e w' => ∃ A' c' r err, e = .returned (.tuple #[.slice A' r.length c', .int .i64 err]) ∧ IsVecs w' A' c' r ∧ OctRes k r err ∧ SinceOf w w' := by
  by_cases h1 : k < 1
  · have g1 : decide (k < 1) = true := decide_eq_true h1
    have HK := Lib.hid h1
    clear h1
    go_enter Try.func45, Try.ntmps45
    go_wp2_with fail
    go_returns
    exact ⟨none, 0, [], 2, rfl, IsRow.nil _ _ _, .inl ⟨.inl HK.out, rfl, rfl⟩, by (repeat (first | (with_reducible exact SinceOf.refl _) | (with_reducible assumption) | (with_reducible refine SinceOf.alloc ?_ _) | (with_reducible refine SinceOf.drew ?_) | (with_reducible refine SinceOf.drewN ?_ _) | (with_reducible refine SinceOf.later ?_ _) | (with_reducible refine SinceOf.further ?_ _) | (with_reducible refine SinceOf.setCell ?_ (by first | exact Nat.le_refl _ | (simp; done) | omega | (simp; omega)) _)))⟩
  by_cases h2 : 200 < k
  · have g1 : decide (k < 1) = false := decide_eq_false h1
    have g2 : decide (200 < k) = true := decide_eq_true h2
    have HK := Lib.hid h2
    clear h1 h2
    go_enter Try.func45, Try.ntmps45
    go_wp2_with fail
    go_returns
    exact ⟨none, 0, [], 2, rfl, IsRow.nil _ _ _, .inl ⟨.inr HK.out, rfl, rfl⟩, by (repeat (first | (with_reducible exact SinceOf.refl _) | (with_reducible assumption) | (with_reducible refine SinceOf.alloc ?_ _) | (with_reducible refine SinceOf.drew ?_) | (with_reducible refine SinceOf.drewN ?_ _) | (with_reducible refine SinceOf.later ?_ _) | (with_reducible refine SinceOf.further ?_ _) | (with_reducible refine SinceOf.setCell ?_ (by first | exact Nat.le_refl _ | (simp; done) | omega | (simp; omega)) _)))⟩
  have g1 : decide (k < 1) = false := decide_eq_false h1
  have g2 : decide (200 < k) = false := decide_eq_false h2
  have HK := Lib.hid (And.intro (show 1 ≤ k by omega) (show k ≤ 200 by omega))
  have hh := octH_in HK.out.1 HK.out.2
  have hd : Int.tdiv (5 * k + 11) 12 = octH k := by unfold octH; rw [Int.tdiv_eq_ediv_of_nonneg (by omega)]
  have w1 : IntKind.i64.wrap (5 * k) = 5 * k := IntWalk.i64_in _ (by omega)
  have w2 : IntKind.i64.wrap (5 * k + 11) = 5 * k + 11 := IntWalk.i64_in _ (by omega)
  have w3 : IntKind.i64.wrap (octH k) = octH k := IntWalk.i64_in _ (by omega)
  obtain ⟨i0, hi, hz0, hz1, hz2⟩ := info_parts infoVec
  have HI := Lib.hid (And.intro hi (And.intro hz0 (And.intro hz1 hz2)))
  clear hi hz0 hz1 hz2
  have HB := Lib.hid hh
  clear hh
  generalize hH : octH k = h at *
  have HH := Lib.hid hH
  clear hH
  go_enter Try.func45, Try.ntmps45
  go_wp2_with fail
  go_loopg [5, 23] 4 (fun gas s5 s23 wr => ∃ (i : Nat) (A2 : Option Addr) (c2 n2 : Nat), i ≤ 4 ∧ 4 - i ≤ gas ∧ n2 = 2 * i ∧ s5 = .slice A2 n2 c2 ∧ s23 = .int .i64 i ∧ OwnVecs w.heap.size wr A2 c2 ((octP k h).take (2 * i)) ∧ SinceOf w wr)
  case atStart => exact ⟨0, none, 0, 0, by omega, by omega, rfl, rfl, rfl, Owns.nil _ _ _ _ _, by (repeat (first | (with_reducible exact SinceOf.refl _) | (with_reducible assumption) | (with_reducible refine SinceOf.alloc ?_ _) | (with_reducible refine SinceOf.drew ?_) | (with_reducible refine SinceOf.drewN ?_ _) | (with_reducible refine SinceOf.later ?_ _) | (with_reducible refine SinceOf.further ?_ _) | (with_reducible refine SinceOf.setCell ?_ (by first | exact Nat.le_refl _ | (simp; done) | omega | (simp; omega)) _)))⟩
  case round =>
    obtain ⟨i, A2, c2, n2, hi, hgas, hn2, rfl, rfl, ho, ⟨z, rfl⟩⟩ := hrel
    have hzz := z.size
    have hhb := HB.out
    have hkb := HK.out
    have q1 : IntKind.i64.wrap k = k := IntWalk.i64_in _ (by omega)
    have q2 : IntKind.i64.wrap (-k) = -k := IntWalk.i64_in _ (by omega)
    have q3 : IntKind.i64.wrap (-h) = -h := IntWalk.i64_in _ (by omega)
    by_cases hlt : i < 4
    · have hcase : i = 0 ∨ i = 1 ∨ i = 2 ∨ i = 3 := by omega
      have q4 : IntKind.i64.wrap (-1 * h) = -h := by rw [show -1 * h = -h by omega]; exact q3
      have q5 : IntKind.i64.wrap (-1 * k) = -k := by rw [show -1 * k = -k by omega]; exact q2
      clear hhb hkb
      rcases hcase with rfl | rfl | rfl | rfl
      · have HO := Lib.hid (show OwnVecs w.heap.size z.wd A2 c2 [] from ho)
        obtain rfl : n2 = 0 := by omega
        clear ho hn2
        have ix := ix0
        go_wp2_with (at_builtin; refine wpList_append_row rfl (.tmp 26) (.tmp 45) 22 rfl encV_len (by omega) encV_one i0 _ 16 Try.underlying22 HI.out.1 HI.out.2.1 HI.out.2.2.1 HI.out.2.2.2 rfl (l := []) (A := A2) (c := c2) (base := w.heap.size) rfl (HO.out.of (by (repeat (first | (with_reducible exact SinceOf.refl _) | (with_reducible assumption) | (with_reducible refine SinceOf.alloc ?_ _) | (with_reducible refine SinceOf.drew ?_) | (with_reducible refine SinceOf.drewN ?_ _) | (with_reducible refine SinceOf.later ?_ _) | (with_reducible refine SinceOf.further ?_ _) | (with_reducible refine SinceOf.setCell ?_ (by first | exact Nat.le_refl _ | (simp; done) | omega | (simp; omega)) _))))) (m := [(k, h), (h, k)]) rfl (isRow_at2W _ _ _ _ _ _ (by first | rfl | simp)) (by unfold maxLen; simp) (by simp) (by simp; omega) ?_; intro A3 c3 w4 ho3 hgr4 hb4)
        go_roundg 3
        case measure => omega
        case rel => exact ⟨1, A3, c3, 2, by omega, by omega, rfl, rfl, by go_num, ho3, SinceOf.grown (by (repeat (first | (with_reducible exact SinceOf.refl _) | (with_reducible assumption) | (with_reducible refine SinceOf.alloc ?_ _) | (with_reducible refine SinceOf.drew ?_) | (with_reducible refine SinceOf.drewN ?_ _) | (with_reducible refine SinceOf.later ?_ _) | (with_reducible refine SinceOf.further ?_ _) | (with_reducible refine SinceOf.setCell ?_ (by first | exact Nat.le_refl _ | (simp; done) | omega | (simp; omega)) _)))) hgr4 (fun q hq => (HO.out.below q hq).1)⟩
      · have HO := Lib.hid (show OwnVecs w.heap.size z.wd A2 c2 [(k, h), (h, k)] from ho)
        obtain rfl : n2 = 2 := by omega
        clear ho hn2
        have ix := ix1
        go_wp2_with (at_builtin; refine wpList_append_row rfl (.tmp 26) (.tmp 45) 22 rfl encV_len (by omega) encV_one i0 _ 16 Try.underlying22 HI.out.1 HI.out.2.1 HI.out.2.2.1 HI.out.2.2.2 rfl (l := [(k, h), (h, k)]) (A := A2) (c := c2) (base := w.heap.size) rfl (HO.out.of (by (repeat (first | (with_reducible exact SinceOf.refl _) | (with_reducible assumption) | (with_reducible refine SinceOf.alloc ?_ _) | (with_reducible refine SinceOf.drew ?_) | (with_reducible refine SinceOf.drewN ?_ _) | (with_reducible refine SinceOf.later ?_ _) | (with_reducible refine SinceOf.further ?_ _) | (with_reducible refine SinceOf.setCell ?_ (by first | exact Nat.le_refl _ | (simp; done) | omega | (simp; omega)) _))))) (m := [(k, -h), (h, -k)]) rfl (isRow_at2W _ _ _ _ _ _ (by first | rfl | simp)) (by unfold maxLen; simp) (by simp) (by simp; omega) ?_; intro A3 c3 w4 ho3 hgr4 hb4)
        go_roundg 2
        case measure => omega
        case rel => exact ⟨2, A3, c3, 4, by omega, by omega, rfl, rfl, by go_num, ho3, SinceOf.grown (by (repeat (first | (with_reducible exact SinceOf.refl _) | (with_reducible assumption) | (with_reducible refine SinceOf.alloc ?_ _) | (with_reducible refine SinceOf.drew ?_) | (with_reducible refine SinceOf.drewN ?_ _) | (with_reducible refine SinceOf.later ?_ _) | (with_reducible refine SinceOf.further ?_ _) | (with_reducible refine SinceOf.setCell ?_ (by first | exact Nat.le_refl _ | (simp; done) | omega | (simp; omega)) _)))) hgr4 (fun q hq => (HO.out.below q hq).1)⟩
      · have HO := Lib.hid (show OwnVecs w.heap.size z.wd A2 c2 [(k, h), (h, k), (k, -h), (h, -k)] from ho)
        obtain rfl : n2 = 4 := by omega
        clear ho hn2
        have ix := ix2
        go_wp2_with (at_builtin; refine wpList_append_row rfl (.tmp 26) (.tmp 45) 22 rfl encV_len (by omega) encV_one i0 _ 16 Try.underlying22 HI.out.1 HI.out.2.1 HI.out.2.2.1 HI.out.2.2.2 rfl (l := [(k, h), (h, k), (k, -h), (h, -k)]) (A := A2) (c := c2) (base := w.heap.size) rfl (HO.out.of (by (repeat (first | (with_reducible exact SinceOf.refl _) | (with_reducible assumption) | (with_reducible refine SinceOf.alloc ?_ _) | (with_reducible refine SinceOf.drew ?_) | (with_reducible refine SinceOf.drewN ?_ _) | (with_reducible refine SinceOf.later ?_ _) | (with_reducible refine SinceOf.further ?_ _) | (with_reducible refine SinceOf.setCell ?_ (by first | exact Nat.le_refl _ | (simp; done) | omega | (simp; omega)) _))))) (m := [(-k, h), (-h, k)]) rfl (isRow_at2W _ _ _ _ _ _ (by first | rfl | simp)) (by unfold maxLen; simp) (by simp) (by simp; omega) ?_; intro A3 c3 w4 ho3 hgr4 hb4)
        go_roundg 1
        case measure => omega
        case rel => exact ⟨3, A3, c3, 6, by omega, by omega, rfl, rfl, by go_num, ho3, SinceOf.grown (by (repeat (first | (with_reducible exact SinceOf.refl _) | (with_reducible assumption) | (with_reducible refine SinceOf.alloc ?_ _) | (with_reducible refine SinceOf.drew ?_) | (with_reducible refine SinceOf.drewN ?_ _) | (with_reducible refine SinceOf.later ?_ _) | (with_reducible refine SinceOf.further ?_ _) | (with_reducible refine SinceOf.setCell ?_ (by first | exact Nat.le_refl _ | (simp; done) | omega | (simp; omega)) _)))) hgr4 (fun q hq => (HO.out.below q hq).1)⟩
      · have HO := Lib.hid (show OwnVecs w.heap.size z.wd A2 c2 [(k, h), (h, k), (k, -h), (h, -k), (-k, h), (-h, k)] from ho)
        obtain rfl : n2 = 6 := by omega
        clear ho hn2
        have ix := ix3
        go_wp2_with (at_builtin; refine wpList_append_row rfl (.tmp 26) (.tmp 45) 22 rfl encV_len (by omega) encV_one i0 _ 16 Try.underlying22 HI.out.1 HI.out.2.1 HI.out.2.2.1 HI.out.2.2.2 rfl (l := [(k, h), (h, k), (k, -h), (h, -k), (-k, h), (-h, k)]) (A := A2) (c := c2) (base := w.heap.size) rfl (HO.out.of (by (repeat (first | (with_reducible exact SinceOf.refl _) | (with_reducible assumption) | (with_reducible refine SinceOf.alloc ?_ _) | (with_reducible refine SinceOf.drew ?_) | (with_reducible refine SinceOf.drewN ?_ _) | (with_reducible refine SinceOf.later ?_ _) | (with_reducible refine SinceOf.further ?_ _) | (with_reducible refine SinceOf.setCell ?_ (by first | exact Nat.le_refl _ | (simp; done) | omega | (simp; omega)) _))))) (m := [(-k, -h), (-h, -k)]) rfl (isRow_at2W _ _ _ _ _ _ (by first | rfl | simp)) (by unfold maxLen; simp) (by simp) (by simp; omega) ?_; intro A3 c3 w4 ho3 hgr4 hb4)
        go_roundg 0
        case measure => omega
        case rel => exact ⟨4, A3, c3, 8, by omega, by omega, rfl, rfl, by go_num, ho3, SinceOf.grown (by (repeat (first | (with_reducible exact SinceOf.refl _) | (with_reducible assumption) | (with_reducible refine SinceOf.alloc ?_ _) | (with_reducible refine SinceOf.drew ?_) | (with_reducible refine SinceOf.drewN ?_ _) | (with_reducible refine SinceOf.later ?_ _) | (with_reducible refine SinceOf.further ?_ _) | (with_reducible refine SinceOf.setCell ?_ (by first | exact Nat.le_refl _ | (simp; done) | omega | (simp; omega)) _)))) hgr4 (fun q hq => (HO.out.below q hq).1)⟩
    · obtain rfl : i = 4 := by omega
      obtain rfl : n2 = 8 := by omega
      have HO := Lib.hid (show OwnVecs w.heap.size z.wd A2 c2 (octP k h) from ho)
      clear ho hn2 hhb hkb
      go_wp2_with fail
      refine (hull_any A2 c2 (octP k h) _ ((HO.out.isRow encV_len).of (by (repeat (first | (with_reducible exact SinceOf.refl _) | (with_reducible assumption) | (with_reducible refine SinceOf.alloc ?_ _) | (with_reducible refine SinceOf.drew ?_) | (with_reducible refine SinceOf.drewN ?_ _) | (with_reducible refine SinceOf.later ?_ _) | (with_reducible refine SinceOf.further ?_ _) | (with_reducible refine SinceOf.setCell ?_ (by first | exact Nat.le_refl _ | (simp; done) | omega | (simp; omega)) _))))) (by simp [octP])).mono ?_
      rintro e _ ⟨A5, c5, r, er, rfl, hv, hr, ⟨x5, rfl⟩⟩
      rw [← HH.out] at hr
      obtain ⟨rfl, ho⟩ := oct_of HK.out.1 HK.out.2 hr
      have HR := Lib.hid (And.intro hv ho)
      clear hv ho hr
      go_wp2_with fail
      go_returns
      exact ⟨A5, c5, r, 0, rfl, HR.out.1, HR.out.2, by (repeat (first | (with_reducible exact SinceOf.refl _) | (with_reducible assumption) | (with_reducible refine SinceOf.alloc ?_ _) | (with_reducible refine SinceOf.drew ?_) | (with_reducible refine SinceOf.drewN ?_ _) | (with_reducible refine SinceOf.later ?_ _) | (with_reducible refine SinceOf.further ?_ _) | (with_reducible refine SinceOf.setCell ?_ (by first | exact Nat.le_refl _ | (simp; done) | omega | (simp; omega)) _)))⟩
set_option maxRecDepth 100000 in
set_option maxHeartbeats 16000000 in
theorem refOctagon_any (k : Int) (w : World) :
    Calls Try.prog 46 #[.int .i64 k] w fun e w' => ∃ A' c' r err, e = .returned (.tuple #[.slice A' r.length c', .int .i64 err]) ∧ IsVecs w' A' c' r ∧ OctRes k r err ∧ SinceOf w w' := by
  by_cases h1 : k < 1
  · have g1 : decide (k < 1) = true := decide_eq_true h1
    have HK := Lib.hid h1
    clear h1
    go_enter Try.func46, Try.ntmps46
    go_wp2_with fail
    go_returns
    exact ⟨none, 0, [], 2, rfl, IsRow.nil _ _ _, .inl ⟨.inl HK.out, rfl, rfl⟩, by (repeat (first | (with_reducible exact SinceOf.refl _) | (with_reducible assumption) | (with_reducible refine SinceOf.alloc ?_ _) | (with_reducible refine SinceOf.drew ?_) | (with_reducible refine SinceOf.drewN ?_ _) | (with_reducible refine SinceOf.later ?_ _) | (with_reducible refine SinceOf.further ?_ _) | (with_reducible refine SinceOf.setCell ?_ (by first | exact Nat.le_refl _ | (simp; done) | omega | (simp; omega)) _)))⟩
  by_cases h2 : 200 < k
  · have g1 : decide (k < 1) = false := decide_eq_false h1
    have g2 : decide (200 < k) = true := decide_eq_true h2
    have HK := Lib.hid h2
    clear h1 h2
    go_enter Try.func46, Try.ntmps46
    go_wp2_with fail
    go_returns
    exact ⟨none, 0, [], 2, rfl, IsRow.nil _ _ _, .inl ⟨.inr HK.out, rfl, rfl⟩, by (repeat (first | (with_reducible exact SinceOf.refl _) | (with_reducible assumption) | (with_reducible refine SinceOf.alloc ?_ _) | (with_reducible refine SinceOf.drew ?_) | (with_reducible refine SinceOf.drewN ?_ _) | (with_reducible refine SinceOf.later ?_ _) | (with_reducible refine SinceOf.further ?_ _) | (with_reducible refine SinceOf.setCell ?_ (by first | exact Nat.le_refl _ | (simp; done) | omega | (simp; omega)) _)))⟩
  have g1 : decide (k < 1) = false := decide_eq_false h1
  have g2 : decide (200 < k) = false := decide_eq_false h2
  have HK := Lib.hid (And.intro (show 1 ≤ k by omega) (show k ≤ 200 by omega))
  have w0 : IntKind.i64.wrap (5 * k) = 5 * k := IntWalk.i64_in _ (by omega)
  have hh := octH_in HK.out.1 HK.out.2
  obtain ⟨h, hh2⟩ : ∃ h : Nat, (h : Int) = octH k := ⟨(octH k).toNat, by omega⟩
  have HB := Lib.hid (And.intro (show 1 ≤ (h : Int) ∧ (h : Int) ≤ 84 ∧ 5 * k ≤ 12 * (h : Int) ∧ 12 * (h : Int) ≤ 5 * k + 11 by rw [hh2]; exact hh) hh2)
  clear hh hh2 h1 h2
  go_enter Try.func46, Try.ntmps46
  go_wp2_with fail
  clear g1 g2
  go_loopg [4] h (fun gas s4 wr => ∃ j : Nat, j ≤ h ∧ h - j ≤ gas ∧ s4 = .int .i64 j ∧ LaterOf w wr)
  case atStart => exact ⟨0, by omega, by omega, rfl, by (repeat (first | (with_reducible exact LaterOf.refl _) | (with_reducible refine LaterOf.alloc ?_ _) | (with_reducible refine LaterOf.drew ?_) | (with_reducible refine LaterOf.drewN ?_ _) | (with_reducible refine LaterOf.later ?_ _) | (with_reducible refine LaterOf.setCell ?_ (by first | exact Nat.le_refl _ | (simp; done) | omega | (simp; omega)) _)))⟩
  case round =>
    obtain ⟨j, hj, hgas, rfl, ⟨z, rfl⟩⟩ := hrel
    have hb := HB.out
    have w1 : IntKind.i64.wrap (12 * (j : Int)) = 12 * (j : Int) := IntWalk.i64_in _ (by omega)
    by_cases hlt : j < h
    · have g1 : decide (12 * (j : Int) < 5 * k) = true := decide_eq_true (by omega)
      have hj84 : j < 84 := by omega
      clear hb
      go_wp2_with fail
      go_roundg (h - (j + 1))
      case measure => omega
      case rel => exact ⟨j + 1, hlt, Nat.le_refl _, by go_num, by (repeat (first | (with_reducible exact LaterOf.refl _) | (with_reducible refine LaterOf.alloc ?_ _) | (with_reducible refine LaterOf.drew ?_) | (with_reducible refine LaterOf.drewN ?_ _) | (with_reducible refine LaterOf.later ?_ _) | (with_reducible refine LaterOf.setCell ?_ (by first | exact Nat.le_refl _ | (simp; done) | omega | (simp; omega)) _)))⟩
    · obtain rfl : j = h := by omega
      have g1 : decide (12 * (j : Int) < 5 * k) = false := decide_eq_false (by omega)
      have hk := HK.out
      have q2 : IntKind.i64.wrap (-k) = -k := IntWalk.i64_in _ (by omega)
      have q3 : IntKind.i64.wrap (-(j : Int)) = -(j : Int) := IntWalk.i64_in _ (by omega)
      clear hb hk hlt hj hgas
      go_wp2_with fail
      have hO : OwnVecs z.wd.heap.size (z.wd.alloc (.cells #[.int .i64 k, .int .i64 j, .int .i64 j, .int .i64 k, .int .i64 (-j), .int .i64 k, .int .i64 (-k), .int .i64 j, .int .i64 (-k), .int .i64 (-j), .int .i64 (-j), .int .i64 (-k), .int .i64 j, .int .i64 (-k), .int .i64 k, .int .i64 (-j)] 32)) (some ⟨z.wd.heap.size, 0, none⟩) 8 (octQ k j) := World.ownsRow_lit z.wd _ 8 (Nat.le_refl _) (by decide) rfl
      refine (refHull_any _ 8 (octQ k j) _ (hO.isRow encV_len) (by simp [octQ])).mono ?_
      rintro e _ ⟨A5, c5, r, er, rfl, hv, hr, ⟨x5, rfl⟩⟩
      have hr2 : HullRes (octP k j) r er := hullRes_same hr (fun p => octQ_mem.symm) rfl
      rw [HB.out.2] at hr2
      obtain ⟨rfl, ho⟩ := oct_of HK.out.1 HK.out.2 hr2
      have HR := Lib.hid (And.intro hv ho)
      clear hv ho hr hr2 hO
      go_wp2_with fail
      go_returns
      exact ⟨A5, c5, r, 0, rfl, HR.out.1, HR.out.2, by (repeat (first | (with_reducible exact SinceOf.refl _) | (with_reducible assumption) | (with_reducible refine SinceOf.alloc ?_ _) | (with_reducible refine SinceOf.drew ?_) | (with_reducible refine SinceOf.drewN ?_ _) | (with_reducible refine SinceOf.later ?_ _) | (with_reducible refine SinceOf.further ?_ _) | (with_reducible refine SinceOf.setCell ?_ (by first | exact Nat.le_refl _ | (simp; done) | omega | (simp; omega)) _)))⟩
end Go.Proofs.Yticmfmcflikneaa
