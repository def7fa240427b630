/- Layer 16: rows of the program, the iterator over the rows of a box. -/
import Derived.Test.YtpbgimdbhgahkaaGreatNof5
import Derived.Test.YtpbgimdbhgahkaaGreatRangeR
import Derived.Shelf.Abstract
import Derived.OwnWalkIn
import Derived.TacticsInMore
import Derived.LoopNIn
import Derived.LoopIn
namespace Go.Proofs.YtpbgimdbhgahkaaGreat
open Go.RowKit Go.Sort
set_option linter.unusedVariables false
set_option linter.unusedSimpArgs false

theorem Owns.not_deferred {α : Type} {enc : α → List Value} {k base : Nat} {e : TypeId} {w : World} {A : Option Addr} {c : Nat} {l : List α} (h : Owns enc k base e w A c l) {D : Nat} {o : Obj} (hd : w.heap[D]? = some o) (ho : ∀ cs t f, o ≠ .cells cs t f) : blockOf A ≠ some D := by
  rcases h.2 with ⟨h', _⟩ | ⟨g', cap, cur, h', hb, hg, _⟩
  · simp only [Value.slice.injEq] at h'
    rw [h'.1]; intro e; cases e
  · simp only [Value.slice.injEq] at h'
    rw [h'.1]
    intro e
    injection e with e
    simp only at e
    subst e
    rw [hg] at hd
    injection hd with hd
    exact ho _ _ _ hd.symm
@[local go_sem ↓] theorem semAt_free (l : Nat) (ρ : Operand → Value) (o : Oper) (h : (match o.op with | .defer _ => false | _ => true) = true) : Oper.semAt (some l) ρ o = execOp ρ o :=
  Oper.semAt_eq _ _ _ fun c e => by rw [e] at h; cases h
theorem wide_none (h : Fence.wide.depth.isSome = true) (n : Nat) : 1 ≤ n := by simp [Fence.wide] at h
attribute [local go_sem ↓] Go.wp_at_zero Go.wp_at_succ semAt_free

/-- k numbers from L on. -/
def ysL (L : Int) (k : Nat) : List Int := (List.range k).map (fun i : Nat => L + i)
theorem ysL_len (L : Int) (k : Nat) : (ysL L k).length = k := by unfold ysL; simp
theorem ysL_succ (L : Int) (k : Nat) : ysL L (k + 1) = ysL L k ++ [L + k] := by unfold ysL; rw [List.range_succ]; simp
theorem ysL_split {L : Int} {k n : Nat} (h : k < n) : ysL L n = ysL L k ++ (L + k) :: ysL (L + k + 1) (n - k - 1) := by
  apply List.ext_getElem?
  intro i
  unfold ysL
  by_cases h1 : i < k
  · rw [List.getElem?_append_left (by simp; exact h1)]
    simp [h1, Nat.lt_trans h1 h]
  · rw [List.getElem?_append_right (by simp; omega)]
    simp only [List.length_map, List.length_range]
    by_cases h2 : i = k
    · subst h2; simp [h]
    · obtain ⟨j, rfl⟩ : ∃ j, i = k + 1 + j := ⟨i - (k + 1), by omega⟩
      rw [show k + 1 + j - k = j + 1 from by omega, List.getElem?_cons_succ]
      by_cases h3 : k + 1 + j < n
      · rw [List.getElem?_map, List.getElem?_map, List.getElem?_range (by omega), List.getElem?_range (by omega)]
        simp; omega
      · rw [List.getElem?_eq_none (by simp; omega), List.getElem?_eq_none (by simp; omega)]
theorem mem_ysL {L y : Int} {k : Nat} : y ∈ ysL L k ↔ L ≤ y ∧ y < L + k := by
  unfold ysL
  simp only [List.mem_map, List.mem_range]
  constructor
  · rintro ⟨i, hi, rfl⟩; omega
  · rintro ⟨h1, h2⟩; exact ⟨(y - L).toNat, by omega, by omega⟩
/-- What rows yields. -/
def EncR (base : Nat) (S : List (List Pt)) (lx hx : Int) (y : Int) (args : Array Value) (W : World) : Prop := ∃ (A : Option Addr) (c : Nat) (out : List (Int × Int)), args = #[.int .i64 y, .slice A out.length c] ∧ RowV S y lx hx out ∧ OwnIvs base W A c out
/-- The rows of a box. -/
def boxYs (ly hy : Int) : List Int := ysL (imax ly (-8000)) (imin hy 8000 + 1 - imax ly (-8000)).toNat
/-- The captured box and set are as they were. -/
def RowsKp (A : Option Addr) (n c : Nat) (lx ly hx hy : Int) (bb bs : Nat) (w W : World) : Prop := SinceOf w W ∧ W.cell? ⟨bb, 0, none⟩ = some (.int .i64 lx) ∧ W.cell? ⟨bb, 1, none⟩ = some (.int .i64 ly) ∧ W.cell? ⟨bb, 2, none⟩ = some (.int .i64 hx) ∧ W.cell? ⟨bb, 3, none⟩ = some (.int .i64 hy) ∧ Nonempty (Old W bb) ∧ W.cell? ⟨bs, 0, none⟩ = some (.slice A n c) ∧ Nonempty (Old W bs)
set_option maxRecDepth 100000 in
set_option maxHeartbeats 8000000 in
theorem rowsSeqK_any (A : Option Addr) (c : Nat) (X : List RgR) (lx ly hx hy : Int) (bb bs : Nat) (w : World) (h : IsRings w A c X) (hs : ∀ x ∈ X, x.xs.length ≤ 100000) (hX : X.length ≤ 10000)
    (Kp : World → Prop) (bAt : ∀ W, Kp W → RowsKp A X.length c lx ly hx hy bb bs w W) (base : Nat) (hbase : ∀ W, Kp W → base ≤ W.heap.size) (w1 : World) (n : Nat) :
    SeqR Kp Fence.wide n Tryz.prog 48 #[.pointer (some ⟨bb, 0, none⟩), .pointer (some ⟨bs, 0, none⟩)] (EncR base (vxs X) lx hx) (boxYs ly hy) w1 := by
  intro lb J Jx W hW hJ hJx hKp hY h0
  clear hW
  unfold RowsKp at bAt
  have HY := Lib.hid hY
  have HJ := Lib.hid (And.intro hJ (And.intro hJx (And.intro hKp h0)))
  have RW := fun W (hW : SinceOf w W) (y : Int) => nofRow_any A c X y lx hx W (h.of hW) hs hX
  have H := Lib.hid (And.intro bAt (And.intro RW hbase))
  obtain ⟨-, q0, q1, q2, q3, q4, q5, q6⟩ := bAt W (HJ.out.2.2.1 _ _ HJ.out.2.2.2)
  obtain ⟨L, hL⟩ : ∃ L, L = imax ly (-8000) := ⟨_, rfl⟩
  obtain ⟨U, hU⟩ : ∃ U, U = imin hy 8000 := ⟨_, rfl⟩
  have hL8 : -8000 ≤ L := by rw [hL, imax_eq]; omega
  have hU8 : U ≤ 8000 := by rw [hU, imin_eq]; omega
  have hbx : boxYs ly hy = ysL L (U + 1 - L).toNat := by unfold boxYs; rw [← hL, ← hU]
  rw [hbx] at HY ⊢
  obtain ⟨N, hN⟩ : ∃ N, N = (U + 1 - L).toNat := ⟨_, rfl⟩
  rw [← hN] at HY ⊢
  clear h hs hX hY hJ hJx hKp h0 bAt RW hbx hbase
  refine callsIn_of_wp Tryz.func48 rfl trivial ?_ rfl
  simp only [Tryz.ntmps48, List.size_toArray, List.length_cons, List.length_nil, Nat.reduceAdd, Nat.reduceSub, Array.replicate_succ, Array.replicate_zero, List.push_toArray, List.append_toArray, List.nil_append, List.cons_append]
  gi_wp2_with fail
  rw [← hL]
  have HN := Lib.hid (And.intro hU hN)
  clear q0 q1 q2 q3 q4 q5 q6 hL hU hN
  gi_loopw [4] (fun s4 wr => ∃ k : Nat, s4 = .int .i64 (L + k) ∧ k ≤ N ∧ J (ysL L k) wr) (fun s4 wr => (U + 1 - intOf s4).toNat)
  case atStart => exact ⟨0, by simp, Nat.zero_le _, HJ.out.2.2.2⟩
  case round =>
    obtain ⟨k, rfl, hk, hj⟩ := hrel
    have hbz := H.out.2.2 _ (HJ.out.2.2.1 _ _ hj)
    have hkp := H.out.1 _ (HJ.out.2.2.1 _ _ hj)
    obtain ⟨⟨z, hz⟩, hkp⟩ := hkp
    subst hz
    obtain ⟨q0, q1, q2, q3, q4, q5, q6⟩ := hkp
    obtain ⟨y, hy'⟩ : ∃ y, y = L + (k : Int) := ⟨_, rfl⟩
    rw [← hy']
    by_cases hlt : k < N
    · have hyU : y ≤ U := by have := HN.out.2; omega
      have g3 : decide (y ≤ imin hy 8000) = true := decide_eq_true (by rw [← HN.out.1]; exact hyU)
      have RW := H.out.2.1 z.wd ⟨z, rfl⟩ y
      have hsp := ysL_split (L := L) hlt
      rw [← hy'] at hsp
      have HE := Lib.hid (And.intro hj (And.intro hsp (And.intro hlt hy')))
      have hyb : y + 1 ≤ 8001 := by omega
      have hyb2 : -8000 ≤ y := by omega
      clear hj hsp hk hy' hlt
      gi_wp2_with fail
      refine ⟨trivial, fun h => wide_none h _, callsIn_wide.2 (RW.mono ?_)⟩
      rintro e _ ⟨A3, c3, out, rfl, hrow, hown, ⟨x1, rfl⟩⟩
      have hj3 := HJ.out.1 _ _ _ HE.out.1 (show SinceOf z.wd x1.wd by (repeat (first | (with_reducible exact SinceOf.refl _) | (with_reducible assumption) | (with_reducible refine SinceOf.alloc ?_ _) | (with_reducible refine SinceOf.drew ?_) | (with_reducible refine SinceOf.drewN ?_ _) | (with_reducible refine SinceOf.later ?_ _) | (with_reducible refine SinceOf.further ?_ _) | (with_reducible refine SinceOf.setCell ?_ (by first | exact Nat.le_refl _ | (simp; done) | omega | (simp; omega)) _))))
      obtain ⟨fn, tmps, assign, body, hyy, hR⟩ := HY.out _ _ _ _ _ HE.out.2.1 ⟨A3, c3, out, rfl, hrow, hown.base_le hbz⟩ hj3
      clear RW hrow hown
      gi_wp2_with fail
      refine ⟨fun h => wide_none h _, hR.mono ?_⟩
      rintro e W3 (⟨rfl, hJ4⟩ | ⟨rfl, hJx4⟩)
      · have HG := Lib.hid hJ4
        clear hJ4 hyy hR hj3
        gi_wp2_with fail
        go_roundw
        case rel => exact ⟨k + 1, by first | (rw [HE.out.2.2.2]; go_num) | (have := HE.out.2.2.2; go_num), HE.out.2.2.1, by rw [ysL_succ, ← HE.out.2.2.2]; exact HG.out⟩
        case measure => simp [intOf]; omega
      · have HG := Lib.hid hJx4
        clear hJx4 hyy hR hj3
        gi_wp2_with fail
        refine bodyPost_ret (results_none rfl _ _ _) rfl ?_
        exact ⟨⟨_, rfl⟩, .inr ⟨_, HG.out⟩⟩
    · have hkN : k = N := by omega
      have g3 : decide (y ≤ imin hy 8000) = false := decide_eq_false (by rw [← HN.out.1]; have := HN.out.2; omega)
      subst hkN
      have HG := Lib.hid hj
      clear hj hy' hlt hk
      gi_wp2_with fail
      go_end0
      exact ⟨⟨_, rfl⟩, .inl HG.out⟩
theorem rowsSeq_any (A : Option Addr) (c : Nat) (X : List RgR) (lx ly hx hy : Int) (bb bs : Nat) (w : World) (h : IsRings w A c X) (hs : ∀ x ∈ X, x.xs.length ≤ 100000) (hX : X.length ≤ 10000)
    (hb0 : w.cell? ⟨bb, 0, none⟩ = some (.int .i64 lx)) (hb1 : w.cell? ⟨bb, 1, none⟩ = some (.int .i64 ly)) (hb2 : w.cell? ⟨bb, 2, none⟩ = some (.int .i64 hx)) (hb3 : w.cell? ⟨bb, 3, none⟩ = some (.int .i64 hy)) (hbO : Nonempty (Old w bb))
    (hb : w.cell? ⟨bs, 0, none⟩ = some (.slice A X.length c)) (hbO2 : Nonempty (Old w bs)) (w1 : World) (hw1 : SinceOf w w1) (n : Nat) :
    SeqR (fun W => SinceOf w W) Fence.wide n Tryz.prog 48 #[.pointer (some ⟨bb, 0, none⟩), .pointer (some ⟨bs, 0, none⟩)] (EncR 0 (vxs X) lx hx) (boxYs ly hy) w1 :=
  rowsSeqK_any A c X lx ly hx hy bb bs w h hs hX _ (fun W hW => by
    obtain ⟨z, rfl⟩ := hW
    refine ⟨⟨z, rfl⟩, ?_, ?_, ?_, ?_, inferInstance, ?_, inferInstance⟩
    · rw [Since.cell]; exact hb0
    · rw [Since.cell]; exact hb1
    · rw [Since.cell]; exact hb2
    · rw [Since.cell]; exact hb3
    · rw [Since.cell]; exact hb) 0 (fun _ _ => Nat.zero_le _) w1 n
theorem rows_any (A : Option Addr) (c : Nat) (X : List RgR) (lx ly hx hy : Int) (w : World) :
    Calls Tryz.prog 27 #[.slice A X.length c, .agg #[.int .i64 lx, .int .i64 ly, .int .i64 hx, .int .i64 hy]] w fun e w' => ∃ bb bs, e = .returned (.func (.func 48) #[] #[.pointer (some ⟨bb, 0, none⟩), .pointer (some ⟨bs, 0, none⟩)]) ∧
      w'.cell? ⟨bb, 0, none⟩ = some (.int .i64 lx) ∧ w'.cell? ⟨bb, 1, none⟩ = some (.int .i64 ly) ∧ w'.cell? ⟨bb, 2, none⟩ = some (.int .i64 hx) ∧ w'.cell? ⟨bb, 3, none⟩ = some (.int .i64 hy) ∧ Nonempty (Old w' bb) ∧ w'.cell? ⟨bs, 0, none⟩ = some (.slice A X.length c) ∧ Nonempty (Old w' bs) ∧ w.heap.size ≤ bb ∧ w.heap.size ≤ bs ∧ bb < w'.heap.size ∧ bs < w'.heap.size ∧ SinceOf w w' := by
  go_enter Tryz.func27, Tryz.ntmps27
  go_wp2_with fail
  go_returns
  refine ⟨w.heap.size + 1, w.heap.size, rfl, ?_, ?_, ?_, ?_, ⟨⟨by simp; try omega⟩⟩, ?_, ⟨⟨by simp; try omega⟩⟩, by omega, by omega, by simp, by simp; try omega, by (repeat (first | (with_reducible exact SinceOf.refl _) | (with_reducible assumption) | (with_reducible refine SinceOf.alloc ?_ _) | (with_reducible refine SinceOf.drew ?_) | (with_reducible refine SinceOf.drewN ?_ _) | (with_reducible refine SinceOf.later ?_ _) | (with_reducible refine SinceOf.further ?_ _) | (with_reducible refine SinceOf.setCell ?_ (by first | exact Nat.le_refl _ | (simp; done) | omega | (simp; omega)) _)))⟩
  all_goals simp [go_sem]
end Go.Proofs.YtpbgimdbhgahkaaGreat
/- Layer 16: First of the program. -/
namespace Go.Proofs.YtpbgimdbhgahkaaGreat
open Go.RowKit Go.Sort
set_option linter.unusedVariables false
set_option linter.unusedSimpArgs false
attribute [local go_sem ↓] Go.wp_at_zero Go.wp_at_succ semAt_free

/-- The first permitted vector of rows. -/
def FirstV (S : List (List Pt)) (lx hx : Int) : List Int → (Int × Int) × Bool → Prop
  | [], o => o = ((0, 0), false)
  | y :: ys, o => ∃ l, RowV S y lx hx l ∧ match l with
    | [] => FirstV S lx hx ys o
    | p :: _ => o = ((p.1, y), true)
theorem FirstV.unique {S : List (List Pt)} {lx hx : Int} : ∀ {ys : List Int} {a b : (Int × Int) × Bool}, FirstV S lx hx ys a → FirstV S lx hx ys b → a = b
  | [], _, _, h, k => h.trans k.symm
  | y :: ys, a, b, ⟨l, h1, h2⟩, ⟨l', k1, k2⟩ => by
    obtain rfl := h1.unique k1
    cases l with
    | nil => exact FirstV.unique h2 k2
    | cons p l => exact h2.trans k2.symm
theorem FirstV.skip {S : List (List Pt)} {lx hx : Int} {ys : List Int} {o : (Int × Int) × Bool} (h : FirstV S lx hx ys o) : ∀ {pre : List Int}, (∀ y ∈ pre, RowV S y lx hx []) → FirstV S lx hx (pre ++ ys) o
  | [], _ => h
  | y :: pre, hp => ⟨[], hp y (by simp), h.skip (fun z hz => hp z (by simp [hz]))⟩
theorem heap_set3 (w : World) (a b D : Nat) (ha : D ≠ a) (hb : D ≠ b) (u0 u1 u4 : Value) : (((w.setCell ⟨a, 0, none⟩ u0).setCell ⟨a, 1, none⟩ u1).setCell ⟨b, 0, none⟩ u4).heap[D]? = w.heap[D]? := by
  rw [Below.heap_setCell _ _ _ _ hb, Below.heap_setCell _ _ _ _ ha, Below.heap_setCell _ _ _ _ ha]
theorem since_putObj {w V : World} {D : Nat} (o : Obj) (h : SinceOf w V) (hD : w.heap.size ≤ D) : SinceOf w (V.putObj D o) :=
  SinceOf.grown h (grownBy_putObj' _ _ _) (fun k e => by injection e with e; omega)
theorem cell_putObj {w : World} {D : Nat} {o : Obj} {p : Addr} (h : p.block ≠ D) : (w.putObj D o).cell? p = w.cell? p := World.cell?_of_block (World.putObj_heap_other (by first | exact h | exact fun e => h e.symm))
/-- What First knows when its loop is left by a jump. -/
def FstIx (S : List (List Pt)) (lx hx : Int) (w wl : World) (ys : List Int) (ga gb : Nat) : Code → List Int → World → Prop
  | .ret, pre, W => ∃ x y, FirstV S lx hx ys ((x, y), true) ∧ SinceOf w W ∧ W.cell? ⟨ga, 0, none⟩ = some (.int .i64 x) ∧ W.cell? ⟨ga, 1, none⟩ = some (.int .i64 y) ∧ W.cell? ⟨gb, 0, none⟩ = some (.bool true) ∧ wl.heap.size ≤ W.heap.size
  | _, _, _ => False
set_option maxRecDepth 100000 in
set_option maxHeartbeats 8000000 in
theorem first_any (A : Option Addr) (c : Nat) (X : List RgR) (lx ly hx hy : Int) (w : World) (h : IsRings w A c X) (hs : ∀ x ∈ X, x.xs.length ≤ 100000) (hX : X.length ≤ 10000) :
    Calls Tryz.prog 13 #[.slice A X.length c, .agg #[.int .i64 lx, .int .i64 ly, .int .i64 hx, .int .i64 hy]] w fun e w' => ∃ x y b, e = .returned (.tuple #[vv x y, .bool b]) ∧ FirstV (vxs X) lx hx (boxYs ly hy) ((x, y), b) ∧ SinceOf w w' := by
  have H := Lib.hid (And.intro h hs)
  clear h hs
  refine (callsIn_wide (n := 3)).1 ?_
  refine callsIn_of_wp_marks Tryz.func13 rfl trivial ?_ rfl
  refine wpIn_wide.2 ?_
  simp only [Tryz.ntmps13, List.size_toArray, List.length_cons, List.length_nil, Nat.reduceAdd, Nat.reduceSub, Array.replicate_succ, Array.replicate_zero, List.push_toArray, List.append_toArray, List.nil_append, List.cons_append]
  go_wp2_with fail
  refine (rows_any A c X lx ly hx hy _).mono ?_
  rintro e _ ⟨bb, bs, rfl, b0, b1, b2, b3, hO1, b4, hO2, -, -, -, -, ⟨x1, rfl⟩⟩
  have hz1 := x1.size
  simp only [World.size_alloc] at hz1
  have HB := Lib.hid (rowsSeq_any A c X lx ly hx hy bb bs _ (H.out.1.of (by (repeat (first | (with_reducible exact SinceOf.refl _) | (with_reducible assumption) | (with_reducible refine SinceOf.alloc ?_ _) | (with_reducible refine SinceOf.drew ?_) | (with_reducible refine SinceOf.drewN ?_ _) | (with_reducible refine SinceOf.later ?_ _) | (with_reducible refine SinceOf.further ?_ _) | (with_reducible refine SinceOf.setCell ?_ (by first | exact Nat.le_refl _ | (simp; done) | omega | (simp; omega)) _))))) H.out.2 hX b0 b1 b2 b3 hO1 b4 hO2)
  clear b0 b1 b2 b3 b4 hO1 hO2
  go_wp2_with fail
  refine (wpIn_wide (n := 3)).1 ?_
  refine wpIn_rangeFunc_rel rfl (by decide) (gf := 48) (lb := #[.pointer (some ⟨bb, 0, none⟩), .pointer (some ⟨bs, 0, none⟩)]) rfl trivial (enters_of Tryz.func48 (by kernel_rfl) rfl)
    (HB.out _ (by (repeat (first | (with_reducible exact SinceOf.refl _) | (with_reducible assumption) | (with_reducible refine SinceOf.alloc ?_ _) | (with_reducible refine SinceOf.drew ?_) | (with_reducible refine SinceOf.drewN ?_ _) | (with_reducible refine SinceOf.later ?_ _) | (with_reducible refine SinceOf.further ?_ _) | (with_reducible refine SinceOf.setCell ?_ (by first | exact Nat.le_refl _ | (simp; done) | omega | (simp; omega)) _)))) _) (fun x args W ⟨_, _, _, e, _⟩ => by rw [e]; rfl)
    (fun pre W => SinceOf x1.wd W ∧ ∀ y ∈ pre, RowV (vxs X) y lx hx []) (FstIx (vxs X) lx hx w x1.wd (boxYs ly hy) (w.heap.size + 1) (w.heap.size + 2))
    (fun s P Q hs hg => ⟨hs.1.grown hg (fun k e => by injection e with e; omega), hs.2⟩) ?jx (fun s P hs => hs.1)
    ⟨by (repeat (first | (with_reducible exact SinceOf.refl _) | (with_reducible assumption) | (with_reducible refine SinceOf.alloc ?_ _) | (with_reducible refine SinceOf.drew ?_) | (with_reducible refine SinceOf.drewN ?_ _) | (with_reducible refine SinceOf.later ?_ _) | (with_reducible refine SinceOf.further ?_ _) | (with_reducible refine SinceOf.setCell ?_ (by first | exact Nat.le_refl _ | (simp; done) | omega | (simp; omega)) _))), fun y hy => by cases hy⟩ ?round ?done ?stop
  case jx =>
    intro cc pre P Q hx hg
    cases cc <;> try exact hx.elim
    case ret =>
      obtain ⟨x, y, h1, h2, h3, h4, h5, h6⟩ := hx
      have q1 := hg.block (w.heap.size + 1) (by omega) (fun e => by injection e with e; omega)
      have q2 := hg.block (w.heap.size + 2) (by omega) (fun e => by injection e with e; omega)
      exact ⟨x, y, h1, h2.grown hg (fun k e => by injection e with e; omega), (World.cell?_of_block q1).trans h3, (World.cell?_of_block q1).trans h4, (World.cell?_of_block q2).trans h5, Nat.le_trans h6 hg.size⟩
  case round =>
    rintro lp pre y post args W hxs hsz ⟨lo, hl⟩ ⟨A2, c2, out, rfl, hrow, hown⟩ hI
    apply Exists.intro
    refine ⟨W, SinceOf.refl _, ?_, ?_⟩
    · intro K hK
      gi_wp2_with fail
      exact hK
    · rintro W2 hgr2 hsz2 ⟨⟨z, rfl⟩, hpre⟩
      have hown2 := hown.kept hgr2 (.inr (hown.not_deferred hl (by intro _ _ _ h; cases h)))
      clear hown hgr2 hI hl
      cases out with
      | nil =>
        have HP := Lib.hid (And.intro hpre hrow)
        clear hpre hrow hown2 hxs
        gi_wp2_with fail
        exact ⟨⟨Nat.le_refl _, rfl, rfl⟩, by (repeat (first | (with_reducible exact SinceOf.refl _) | (with_reducible assumption) | (with_reducible refine SinceOf.alloc ?_ _) | (with_reducible refine SinceOf.drew ?_) | (with_reducible refine SinceOf.drewN ?_ _) | (with_reducible refine SinceOf.later ?_ _) | (with_reducible refine SinceOf.further ?_ _) | (with_reducible refine SinceOf.setCell ?_ (by first | exact Nat.le_refl _ | (simp; done) | omega | (simp; omega)) _))), fun q hq => by
          rcases List.mem_append.1 hq with e | e
          · exact HP.out.1 q e
          · rw [List.mem_singleton.1 e]; exact HP.out.2⟩
      | cons p rest =>
        obtain ⟨px, pz⟩ := p
        have hv : FirstV (vxs X) lx hx (boxYs ly hy) ((px, y), true) := by
          rw [hxs]; exact FirstV.skip (ys := y :: post) (o := ((px, y), true)) ⟨_, hrow, rfl⟩ hpre
        obtain ⟨g, e6, hgb, hlv⟩ := hown2.live encV_len (by simp)
        subst e6
        have hlvr := hlv.row
        have hOg := hlvr.there
        have m0 := hlvr.v0 0 (by simp)
        simp only [List.getElem_cons_zero, Nat.zero_mul, Nat.zero_add] at m0
        have hz := z.size
        have HP := Lib.hid hv
        clear hpre hrow hown2 hxs hlv hlvr hv
        gi_wp2_with fail
        refine ⟨⟨by simp, heap_set3 _ _ _ _ (by omega) (by omega) _ _ _, heap_set3 _ _ _ _ (by omega) (by omega) _ _ _⟩, px, y, HP.out, by (repeat (first | (with_reducible exact SinceOf.refl _) | (with_reducible assumption) | (with_reducible refine SinceOf.alloc ?_ _) | (with_reducible refine SinceOf.drew ?_) | (with_reducible refine SinceOf.drewN ?_ _) | (with_reducible refine SinceOf.later ?_ _) | (with_reducible refine SinceOf.further ?_ _) | (with_reducible refine SinceOf.setCell ?_ (by first | exact Nat.le_refl _ | (simp; done) | omega | (simp; omega)) _))), ?_, ?_, ?_, by simp; omega⟩
        all_goals simp [go_sem]
  case done =>
    rintro D W hD ⟨⟨y9, rfl⟩, hall⟩ hK
    have HZ := Lib.hid (show FirstV (vxs X) lx hx (boxYs ly hy) ((0, 0), false) by
      have := FirstV.skip (S := vxs X) (lx := lx) (hx := hx) (ys := []) (o := ((0, 0), false)) rfl hall
      rwa [List.append_nil] at this)
    have HK := Lib.hid (And.intro hK hD)
    have hq1 : Nonempty (Apart (w.heap.size + 1) D) := ⟨⟨by omega⟩⟩
    have hq2 : Nonempty (Apart (w.heap.size + 1 + 1) D) := ⟨⟨by omega⟩⟩
    clear hall hK hD
    go_wp2_with fail
    refine ⟨by simp, .inl ⟨_, _, rfl, run_takeDeferred ((heap_set3 _ _ _ _ (by have := HK.out.2; omega) (by have := HK.out.2; omega) _ _ _).trans HK.out.1), ?_⟩⟩
    refine ⟨.tuple #[vv 0 0, .bool false], ?_, 0, 0, false, rfl, HZ.out, since_putObj _ (by (repeat (first | (with_reducible exact SinceOf.refl _) | (with_reducible assumption) | (with_reducible refine SinceOf.alloc ?_ _) | (with_reducible refine SinceOf.drew ?_) | (with_reducible refine SinceOf.drewN ?_ _) | (with_reducible refine SinceOf.later ?_ _) | (with_reducible refine SinceOf.further ?_ _) | (with_reducible refine SinceOf.setCell ?_ (by first | exact Nat.le_refl _ | (simp; done) | omega | (simp; omega)) _)))) (by have := HK.out.2; omega)⟩
    have na : w.heap.size + 1 ≠ D := by have := HK.out.2; omega
    have nb : w.heap.size + 1 + 1 ≠ D := by have := HK.out.2; omega
    simp [results, Tryz.results13, go_sem, cell_putObj, na, nb]
  case stop =>
    rintro D cc pre W hD hx hK
    cases cc <;> try exact hx.elim
    case ret =>
      obtain ⟨x, y, h1, h2, h3, h4, h5, h6⟩ := hx
      have HX := Lib.hid (And.intro h1 (And.intro h2 (And.intro hK hD)))
      have hq1 : Nonempty (Apart (w.heap.size + 1) D) := ⟨⟨by omega⟩⟩
      have hq2 : Nonempty (Apart (w.heap.size + 1 + 1) D) := ⟨⟨by omega⟩⟩
      clear h1 h2 hK hD
      gi_wp2_with fail
      refine ⟨by simp, .inl ⟨_, _, rfl, run_takeDeferred HX.out.2.2.1, ?_⟩⟩
      refine ⟨.tuple #[vv x y, .bool true], ?_, x, y, true, rfl, HX.out.1, since_putObj _ HX.out.2.1 (by have := HX.out.2.2.2; omega)⟩
      have na : w.heap.size + 1 ≠ D := by have := HX.out.2.2.2; omega
      have nb : w.heap.size + 1 + 1 ≠ D := by have := HX.out.2.2.2; omega
      simp [results, Tryz.results13, go_sem, cell_putObj, na, nb, h3, h4, h5]
end Go.Proofs.YtpbgimdbhgahkaaGreat
/- Layer 16: Count of the program. -/
namespace Go.Proofs.YtpbgimdbhgahkaaGreat
open Go.RowKit Go.Sort
set_option linter.unusedVariables false
set_option linter.unusedSimpArgs false
attribute [local go_sem ↓] Go.wp_at_zero Go.wp_at_succ semAt_free

def tot (l : List (Int × Int)) : Int := (l.map (fun f => f.2 - f.1 + 1)).sum
theorem tot_cons (f : Int × Int) (r : List (Int × Int)) : tot (f :: r) = f.2 - f.1 + 1 + tot r := rfl
theorem tot_append (l m : List (Int × Int)) : tot (l ++ m) = tot l + tot m := by unfold tot; simp
theorem tot_take {l : List (Int × Int)} {j : Nat} (h : j < l.length) : tot (l.take (j + 1)) = tot (l.take j) + (l[j].2 - l[j].1 + 1) := by
  rw [List.take_succ_eq_append_getElem h, tot_append]; simp [tot]
theorem tot_nonneg : ∀ {l : List (Int × Int)}, (∀ f ∈ l, f.1 ≤ f.2) → 0 ≤ tot l
  | [], _ => Int.le_refl _
  | f :: r, h => by
    rw [tot_cons]
    have h1 := h f (by simp)
    have h2 := tot_nonneg (l := r) (fun g hg => h g (by simp [hg]))
    omega
theorem len_le_tot : ∀ {l : List (Int × Int)}, (∀ f ∈ l, f.1 ≤ f.2) → (l.length : Int) ≤ tot l
  | [], _ => by simp [tot]
  | f :: r, h => by
    rw [tot_cons, List.length_cons]
    have h1 := h f (by simp)
    have h2 := len_le_tot (l := r) (fun g hg => h g (by simp [hg]))
    omega
theorem tot_le {hi : Int} : ∀ {l : List (Int × Int)} {lo : Int}, CanonI l → (∀ f ∈ l, lo ≤ f.1 ∧ f.2 ≤ hi) → lo ≤ hi + 1 → tot l ≤ hi - lo + 1
  | [], lo, _, _, h => by simp [tot]; omega
  | f :: r, lo, ⟨h1, h2, h3⟩, hb, h => by
    rw [tot_cons]
    have b := hb f (by simp)
    have := tot_le (hi := hi) (l := r) (lo := f.2 + 1) h3 (fun g hg => ⟨by have := h2 g hg; omega, (hb g (by simp [hg])).2⟩) (by omega)
    omega
theorem RowV.bnd {S : List (List Pt)} {y lx hx : Int} {l : List (Int × Int)} (h : RowV S y lx hx l) : ∀ f ∈ l, f.1 ≤ f.2 ∧ -8000 ≤ f.1 ∧ f.2 ≤ 8000 := fun f hf => by
  have h0 := h.1.le f hf
  have h1 := (h.2 f.1).1 ⟨f, hf, Int.le_refl _, h0⟩
  have h2 := (h.2 f.2).1 ⟨f, hf, h0, Int.le_refl _⟩
  omega
theorem RowV.tot {S : List (List Pt)} {y lx hx : Int} {l : List (Int × Int)} (h : RowV S y lx hx l) : 0 ≤ tot l ∧ tot l ≤ 16001 :=
  ⟨tot_nonneg fun f hf => (h.bnd f hf).1, by have := tot_le (hi := 8000) (lo := -8000) h.1 (fun f hf => (h.bnd f hf).2) (by omega); omega⟩
theorem RowV.totTake {S : List (List Pt)} {y lx hx : Int} {l : List (Int × Int)} (h : RowV S y lx hx l) (j : Nat) : 0 ≤ Go.Proofs.YtpbgimdbhgahkaaGreat.tot (l.take j) ∧ Go.Proofs.YtpbgimdbhgahkaaGreat.tot (l.take j) ≤ 16001 := by
  have h1 : 0 ≤ Go.Proofs.YtpbgimdbhgahkaaGreat.tot (l.take j) := tot_nonneg fun f hf => (h.bnd f (List.mem_of_mem_take hf)).1
  have h2 : 0 ≤ Go.Proofs.YtpbgimdbhgahkaaGreat.tot (l.drop j) := tot_nonneg fun f hf => (h.bnd f (List.mem_of_mem_drop hf)).1
  have h3 := tot_append (l.take j) (l.drop j)
  rw [List.take_append_drop] at h3
  have := h.tot
  omega
/-- How many vectors rows permit. -/
def CountV (S : List (List Pt)) (lx hx : Int) : List Int → Int → Prop
  | [], n => n = 0
  | y :: ys, n => ∃ l m, RowV S y lx hx l ∧ CountV S lx hx ys m ∧ n = tot l + m
theorem CountV.unique {S : List (List Pt)} {lx hx : Int} : ∀ {ys : List Int} {a b : Int}, CountV S lx hx ys a → CountV S lx hx ys b → a = b
  | [], _, _, h, k => h.trans k.symm
  | y :: ys, a, b, ⟨l, m, h1, h2, h3⟩, ⟨l', m', k1, k2, k3⟩ => by
    obtain rfl := h1.unique k1
    obtain rfl := h2.unique k2
    rw [h3, k3]
theorem CountV.snoc {S : List (List Pt)} {lx hx y : Int} {l : List (Int × Int)} (hl : RowV S y lx hx l) : ∀ {ys : List Int} {n : Int}, CountV S lx hx ys n → CountV S lx hx (ys ++ [y]) (n + tot l)
  | [], n, h => ⟨l, 0, hl, rfl, by rw [show n = 0 from h]; omega⟩
  | z :: ys, n, ⟨l', m, h1, h2, h3⟩ => ⟨l', m + tot l, h1, CountV.snoc hl h2, by omega⟩
theorem boxYs_len (ly hy : Int) : (boxYs ly hy).length ≤ 16001 := by unfold boxYs; rw [ysL_len, imax_eq, imin_eq]; omega
/-- What Count keeps: its number m in block gn. -/
structure CntI (A : Option Addr) (k c : Nat) (lx ly hx hy : Int) (bb bs gn D : Nat) (w : World) (m : Int) (W : World) : Prop where
  kp : RowsKp A k c lx ly hx hy bb bs w W
  cell : W.cell? ⟨gn, 0, none⟩ = some (.int .i64 m)
  free : W.frozen? ⟨gn, 0, none⟩ = false
  lt : gn < W.heap.size
  big : D ≤ W.heap.size
section
variable {A : Option Addr} {k c : Nat} {lx ly hx hy : Int} {bb bs gn D : Nat} {w W V : World} {m : Int}
theorem RowsKp.grown {row : Option Nat} (h : RowsKp A k c lx ly hx hy bb bs w W) (hg : W.grownBy V row) (hr : ∀ j, row = some j → w.heap.size ≤ j ∧ j ≠ bb ∧ j ≠ bs) : RowsKp A k c lx ly hx hy bb bs w V := by
  obtain ⟨h1, h2, h3, h4, h5, ⟨⟨h6⟩⟩, h7, ⟨⟨h8⟩⟩⟩ := h
  have e1 := hg.block bb h6 (fun e => (hr _ e.symm).2.1 rfl)
  have e2 := hg.block bs h8 (fun e => (hr _ e.symm).2.2 rfl)
  exact ⟨h1.grown hg (fun j e => (hr j e).1), (World.cell?_of_block e1).trans h2, (World.cell?_of_block e1).trans h3, (World.cell?_of_block e1).trans h4, (World.cell?_of_block e1).trans h5, ⟨⟨Nat.lt_of_lt_of_le h6 hg.size⟩⟩, (World.cell?_of_block e2).trans h7, ⟨⟨Nat.lt_of_lt_of_le h8 hg.size⟩⟩⟩
theorem CntI.grown {row : Option Nat} (h : CntI A k c lx ly hx hy bb bs gn D w m W) (hg : W.grownBy V row) (hr : ∀ j, row = some j → w.heap.size ≤ j ∧ j ≠ bb ∧ j ≠ bs ∧ j ≠ gn) : CntI A k c lx ly hx hy bb bs gn D w m V := by
  have e := hg.block gn h.lt (fun e => (hr _ e.symm).2.2.2 rfl)
  exact ⟨h.kp.grown hg (fun j e => ⟨(hr j e).1, (hr j e).2.1, (hr j e).2.2.1⟩), (World.cell?_of_block e).trans h.cell, (World.frozen?_of_block e).trans h.free, Nat.lt_of_lt_of_le h.lt hg.size, Nat.le_trans h.big hg.size⟩
theorem CntI.since (h : CntI A k c lx ly hx hy bb bs gn D w m W) (hs : SinceOf W V) : CntI A k c lx ly hx hy bb bs gn D w m V := by
  obtain ⟨z, rfl⟩ := hs
  exact h.grown (row := none) (Since.grownBy z _) (fun j e => by cases e)
theorem CntI.set (h : CntI A k c lx ly hx hy bb bs gn D w m W) (hw : w.heap.size ≤ gn) (h1 : gn ≠ bb) (h2 : gn ≠ bs) (m' : Int) : CntI A k c lx ly hx hy bb bs gn D w m' (W.setCell ⟨gn, 0, none⟩ (.int .i64 m')) := by
  refine ⟨h.kp.grown (grownBy_setCell (p := ⟨gn, 0, none⟩) rfl _) (fun j e => by injection e with e; subst e; exact ⟨hw, h1, h2⟩), World.cell?_setCell_same _ _ _ h.cell, by simpa using h.free, by simpa using h.lt, by simpa using h.big⟩
end
set_option maxRecDepth 100000 in
set_option maxHeartbeats 8000000 in
theorem count_any (A : Option Addr) (c : Nat) (X : List RgR) (lx ly hx hy : Int) (w : World) (h : IsRings w A c X) (hs : ∀ x ∈ X, x.xs.length ≤ 100000) (hX : X.length ≤ 10000) :
    Calls Tryz.prog 16 #[.slice A X.length c, .agg #[.int .i64 lx, .int .i64 ly, .int .i64 hx, .int .i64 hy]] w fun e w' => ∃ n, e = .returned (.int .i64 n) ∧ CountV (vxs X) lx hx (boxYs ly hy) n ∧ SinceOf w w' := by
  have H := Lib.hid (And.intro h hs)
  clear h hs
  refine (callsIn_wide (n := 3)).1 ?_
  refine callsIn_of_wp_marks Tryz.func16 rfl trivial ?_ rfl
  refine wpIn_wide.2 ?_
  simp only [Tryz.ntmps16, List.size_toArray, List.length_cons, List.length_nil, Nat.reduceAdd, Nat.reduceSub, Array.replicate_succ, Array.replicate_zero, List.push_toArray, List.append_toArray, List.nil_append, List.cons_append]
  go_wp2_with fail
  refine (rows_any A c X lx ly hx hy _).mono ?_
  rintro e _ ⟨bb, bs, rfl, b0, b1, b2, b3, hO1, b4, hO2, l1, l2, l3, l4, ⟨x1, rfl⟩⟩
  have hz1 := x1.size
  simp only [World.size_alloc, World.size_setCell] at hz1 l1 l2
  obtain ⟨D, hD⟩ : ∃ D, D = x1.wd.heap.size := ⟨_, rfl⟩
  have I0 : CntI A X.length c lx ly hx hy bb bs (w.heap.size + 1) D w 0 x1.wd := ⟨⟨by (repeat (first | (with_reducible exact SinceOf.refl _) | (with_reducible assumption) | (with_reducible refine SinceOf.alloc ?_ _) | (with_reducible refine SinceOf.drew ?_) | (with_reducible refine SinceOf.drewN ?_ _) | (with_reducible refine SinceOf.later ?_ _) | (with_reducible refine SinceOf.further ?_ _) | (with_reducible refine SinceOf.setCell ?_ (by first | exact Nat.le_refl _ | (simp; done) | omega | (simp; omega)) _))), b0, b1, b2, b3, hO1, b4, hO2⟩, by simp [go_sem], by simp [go_sem], by omega, by omega⟩
  have HI0 := Lib.hid I0
  have HN := Lib.hid (And.intro hD (And.intro l1 (And.intro l2 (And.intro l3 l4))))
  clear b0 b1 b2 b3 b4 hO1 hO2 I0 hD l1 l2 l3 l4
  go_wp2_with fail
  refine (wpIn_wide (n := 3)).1 ?_
  refine wpIn_rangeFunc_rel rfl (by decide) (gf := 48) (lb := #[.pointer (some ⟨bb, 0, none⟩), .pointer (some ⟨bs, 0, none⟩)]) rfl trivial (enters_of Tryz.func48 (by kernel_rfl) rfl)
    (rowsSeqK_any A c X lx ly hx hy bb bs w H.out.1 H.out.2 hX (fun W => RowsKp A X.length c lx ly hx hy bb bs w W ∧ D ≤ W.heap.size) (fun W h => h.1) D (fun W h => h.2) _ _) (fun x args W ⟨_, _, _, e, _⟩ => by rw [e]; rfl)
    (fun pre W => ∃ n : Int, CntI A X.length c lx ly hx hy bb bs (w.heap.size + 1) D w n W ∧ CountV (vxs X) lx hx pre n ∧ 0 ≤ n ∧ n ≤ 16001 * pre.length) (fun _ _ _ => False)
    (fun s P Q hs hg => by
      obtain ⟨n, h1, h2⟩ := hs
      exact ⟨n, h1.grown hg (fun j e => by injection e with e; have := HN.out; omega), h2⟩) (fun _ _ _ _ h _ => h.elim) (fun s P hs => by
      obtain ⟨n, h1, h2⟩ := hs
      exact ⟨h1.kp, h1.big⟩)
    ⟨0, HI0.out, rfl, by omega, by simp⟩ ?round ?done ?stop
  case round =>
    rintro lp pre y post args W hxs hsz ⟨lo, hl⟩ ⟨A2, c2, out, rfl, hrow, hown⟩ hI
    apply Exists.intro
    refine ⟨W, SinceOf.refl _, ?_, ?_⟩
    · intro K hK
      gi_wp2_with fail
      exact hK
    · rintro W2 hgr2 hsz2 ⟨n, hc, hcv, hn0, hn1⟩
      have hown2 := hown.kept hgr2 (.inr (hown.not_deferred hl (by intro _ _ _ h; cases h)))
      have hpl : pre.length ≤ 16001 := by have := boxYs_len ly hy; rw [hxs] at this; simp at this; omega
      obtain ⟨z, hz⟩ := hc.kp.1
      have hx1D := HN.out.1
      have HP := Lib.hid (And.intro hrow (And.intro hcv (And.intro hc (And.intro hown2 (And.intro hpl (And.intro hn0 (And.intro hn1 hsz2)))))))
      clear hrow hown2 hxs hcv hc hown hgr2 hI hl hpl hn0 hn1 hx1D hsz hsz2
      subst hz
      gi_wp2_with fail
      gi_loopw [17] (fun s17 wr => ∃ j : Nat, s17 = .int .i64 j ∧ j ≤ out.length ∧ CntI A X.length c lx ly hx hy bb bs (w.heap.size + 1) D w (n + tot (out.take j)) wr ∧ OwnIvs D wr A2 c2 out ∧ Spares D z.wd wr) (fun s17 wr => out.length - (intOf s17).toNat)
      case atStart => exact ⟨0, rfl, by omega, by simpa [tot] using HP.out.2.2.1, HP.out.2.2.2.1, ⟨Nat.le_refl _, rfl, rfl⟩⟩
      case round =>
        obtain ⟨j, rfl, hj, hci, hown3, hsp⟩ := hrel
        obtain ⟨z2, hz2⟩ := hci.kp.1
        subst hz2
        by_cases hlt : j < out.length
        · obtain ⟨g, e6, hgb, hlv⟩ := hown3.live encV_len (by omega)
          subst e6
          have hlvr := hlv.row
          have hOg := hlvr.there
          have m0 := hlvr.v0 j hlt
          have m1 := hlvr.v1 j hlt
          simp only [Nat.zero_add] at m0 m1
          have n0 := hci.cell
          have nf := hci.free
          have hOn : Nonempty (Old z2.wd (w.heap.size + 1)) := ⟨⟨hci.lt⟩⟩
          obtain ⟨f, hf⟩ : ∃ f, f = out[j] := ⟨_, rfl⟩
          have hb := HP.out.1.bnd out[j] (List.getElem_mem hlt)
          have ht := tot_take hlt
          have htb := HP.out.1.totTake j
          have htb2 := HP.out.1.totTake (j + 1)
          rw [← hf] at m0 m1 hb ht
          obtain ⟨fa, fb⟩ := f
          simp only at m0 m1 hb ht
          obtain ⟨m, hm⟩ : ∃ m, m = n + tot (out.take j) := ⟨_, rfl⟩
          rw [← hm] at n0 hci
          have hmb : 0 ≤ m ∧ m ≤ 300000000 := by have := HP.out.2.2.2.2; omega
          have hout : out.length ≤ 100000 := by
            have h1 := len_le_tot (l := out) (fun f hf => (HP.out.1.bnd f hf).1)
            have h2 := HP.out.1.tot
            omega
          have HE := Lib.hid (And.intro hci (And.intro hown3 (And.intro hsp (And.intro hm (And.intro ht hgb)))))
          clear hci hown3 hsp hm ht hlv hlvr htb htb2 hf hgb
          gi_wp2_with fail
          go_roundw
          case rel =>
            have hD3 := HN.out
            refine ⟨j + 1, by go_num, hlt, ?_, ?_, ?_⟩
            · have eqv : n + tot (out.take (j + 1)) = m + (fb - fa + 1) := by have e1 := HE.out.2.2.2.1; have e2 := HE.out.2.2.2.2.1; omega
              rw [eqv]
              exact (HE.out.1.since (show SinceOf z2.wd (z2.wd.alloc (.cells #[.int .i64 fa, .int .i64 fb] 61)) by (repeat (first | (with_reducible exact SinceOf.refl _) | (with_reducible assumption) | (with_reducible refine SinceOf.alloc ?_ _) | (with_reducible refine SinceOf.drew ?_) | (with_reducible refine SinceOf.drewN ?_ _) | (with_reducible refine SinceOf.later ?_ _) | (with_reducible refine SinceOf.further ?_ _) | (with_reducible refine SinceOf.setCell ?_ (by first | exact Nat.le_refl _ | (simp; done) | omega | (simp; omega)) _))))).set (by omega) (by omega) (by omega) _
            · exact (HE.out.2.1.of (show SinceOf z2.wd (z2.wd.alloc (.cells #[.int .i64 fa, .int .i64 fb] 61)) by (repeat (first | (with_reducible exact SinceOf.refl _) | (with_reducible assumption) | (with_reducible refine SinceOf.alloc ?_ _) | (with_reducible refine SinceOf.drew ?_) | (with_reducible refine SinceOf.drewN ?_ _) | (with_reducible refine SinceOf.later ?_ _) | (with_reducible refine SinceOf.further ?_ _) | (with_reducible refine SinceOf.setCell ?_ (by first | exact Nat.le_refl _ | (simp; done) | omega | (simp; omega)) _))))).kept (grownBy_setCell (p := ⟨w.heap.size + 1, 0, none⟩) rfl _) (.inr fun e => by have h9 : D ≤ w.heap.size + 1 := (HE.out.2.1.below _ e).1; omega)
            · have hs1 := HE.out.2.2.1.size
              have hs2 := HP.out.2.2.2.2.2.2.2
              refine HE.out.2.2.1.trans ⟨by simp, ?_, ?_⟩
              · rw [Below.heap_setCell _ _ _ _ (by simp; omega)]; exact Below.heap_alloc _ _ _ (by omega)
              · rw [Below.heap_setCell _ _ _ _ (by simp; omega)]; exact Below.heap_alloc _ _ _ (by omega)
          case measure => simp [intOf]; omega
        · have hjl : j = out.length := by omega
          subst hjl
          rw [List.take_length] at hci
          have HG := Lib.hid (And.intro hci hsp)
          clear hci hsp hown3
          gi_wp2_with fail
          have h1 := HP.out.1.tot
          have h2 := HP.out.2.2.2.2
          exact ⟨by rw [← HN.out.1]; exact HG.out.2, _, HG.out.1, HP.out.2.1.snoc HP.out.1, by omega, by rw [List.length_append]; simp; omega⟩
  case done =>
    rintro E W hE ⟨n, hc, hcv, hn0, hn1⟩ hK
    have n0 := hc.cell
    have hOn : Nonempty (Old W (w.heap.size + 1)) := ⟨⟨hc.lt⟩⟩
    have HK := Lib.hid (And.intro hK (And.intro hE (And.intro hc hcv)))
    clear hK hE hc hcv
    go_wp2_with fail
    refine ⟨by simp, .inl ⟨_, _, rfl, run_takeDeferred HK.out.1, ?_⟩⟩
    refine ⟨.int .i64 n, ?_, n, rfl, HK.out.2.2.2, since_putObj _ HK.out.2.2.1.kp.1 (by have := HK.out.2.1; omega)⟩
    simp [results, Tryz.results16, go_sem]
  case stop => exact fun _ _ _ _ _ h _ => h.elim
end Go.Proofs.YtpbgimdbhgahkaaGreat
/- Layer 16: First and Count of the reference. -/
namespace Go.Proofs.YtpbgimdbhgahkaaGreat
open Go.RowKit Go.Sort
set_option linter.unusedVariables false
set_option linter.unusedSimpArgs false
attribute [local go_sem ↓] Go.wp_at_zero Go.wp_at_succ

end Go.Proofs.YtpbgimdbhgahkaaGreat
