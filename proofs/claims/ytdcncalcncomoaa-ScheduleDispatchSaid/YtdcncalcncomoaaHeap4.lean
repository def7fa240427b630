/- The heap of times: New, Clone, All. -/
import Derived.Test.YtdcncalcncomoaaHeap3
import Derived.Test.YtdcncalcncomoaaRange
import Derived.Shelf.Abstract
import Derived.Shelf.RegionOpen
import Derived.OwnWalkIn
import Derived.TacticsInMore
import Derived.LoopNIn
import Derived.LoopIn
namespace Go.Proofs.Ytdcncalcncomoaa
open Go.RowKit Go.Shelf
set_option linter.unusedVariables false
attribute [local go_sem ↓] Go.wp_at_zero Go.wp_at_succ

@[go_sem ↓] theorem eql_lessF_nil (w : World) : (binOp .eql 129 lessF .nilFunc).run Try.prog w = .ok (.bool false) w := by kernel_rfl
@[go_sem] theorem eql_entries_nil (w : World) (A : Option Addr) (n c n' c' : Nat) : (binOp .eql 141 (.slice A n c) (.slice none n' c')).run Try.prog w = .ok (.bool A.isNone) w :=
  Lib.run_eql_slice_nil w _ _ A n c n' c' Try.underlying141
set_option maxRecDepth 100000 in
theorem hnew_any (w : World) : Calls Try.prog 72 #[lessF] w fun e w' => e = .returned (.pointer (some ⟨w.heap.size, 0, none⟩)) ∧ HeapIs w' w.heap.size w.heap.size [] 0 ∧ LaterOf w w' := by
  go_enter Try.func72, Try.ntmps72
  go_wp2_with fail
  go_returns
  exact ⟨rfl, ⟨none, 0, ⟨by simp [go_sem], by simp [go_sem], by simp [go_sem], by simp [go_sem], by simp [go_sem], inferInstance⟩, Owns.nil _ _ _ _ _, Nat.le_refl _, by simp [blockOf]⟩, by (repeat (first | (with_reducible exact LaterOf.refl _) | (with_reducible refine LaterOf.alloc ?_ _) | (with_reducible refine LaterOf.drew ?_) | (with_reducible refine LaterOf.drewN ?_ _) | (with_reducible refine LaterOf.later ?_ _) | (with_reducible refine LaterOf.setCell ?_ (by first | exact Nat.le_refl _ | (simp; done) | omega | (simp; omega)) _)))⟩
theorem cloneE_any (A : Option Addr) (c : Nat) (l : List (Int × Int)) (w : World) (hl : IsRow encV 2 w A c l) (hn : l.length * 16 ≤ 140737488355328) :
    Calls Try.prog 98 #[.slice A l.length c] w fun e w' => ∃ A' c', e = .returned (.slice A' l.length c') ∧ OwnsE w.heap.size w' A' c' l ∧ SinceOf w w' := by
  obtain ⟨i0, hi, hz0, hz1, hz2⟩ := info_parts infoEntry
  cases A with
  | none =>
    obtain rfl : c = 0 := hl.1 rfl
    have hl0 : l = [] := by
      rcases hl.2 with h | ⟨g, off, h, _⟩
      · exact h
      · cases h
    subst hl0
    go_enter Try.func98, Try.ntmps98
    go_wp2_with fail
    go_returns
    exact ⟨none, 0, rfl, Owns.nil _ _ _ _ _, SinceOf.refl _⟩
  | some ad =>
    go_enter Try.func98, Try.ntmps98
    go_wp2_with (at_builtin; refine wpList_append_row rfl (.tmp 5) (.tmp 6) 141 rfl encV_len (by omega) encV_one i0 _ 16 Try.underlying141 hi hz0 hz1 hz2 rfl (l := []) (A := some ⟨w.heap.size, 0, none⟩) (c := 0) (base := w.heap.size) rfl (World.ownsRow_lit w #[] 0 (Nat.le_refl _) (Nat.zero_le _) rfl) (m := l) rfl (hl.of (SinceOf.alloc (SinceOf.refl w) _)) (by unfold maxLen; simp; omega) (by simpa using hn) (by simp) ?_; intro A' c' w' hown hgrow _)
    go_returns
    exact ⟨A', c', rfl, hown, ((SinceOf.refl w).alloc _).grown hgrow (by intro k hk; simp [blockOf] at hk; omega)⟩
set_option maxRecDepth 100000 in
set_option maxHeartbeats 2000000 in
theorem hclone_any (B g : Nat) (L : List (Int × Int)) (next : Int) (w : World) (h : HeapIs w B g L next) (hL : L.length < 1099511627776) :
    Calls Try.prog 89 #[.pointer (some ⟨g, 0, none⟩)] w fun e w' => ∃ g', e = .returned (.pointer (some ⟨g', 0, none⟩)) ∧ HeapIs w' w.heap.size g' L next ∧ SinceOf w w' := by
  obtain ⟨A, c, hc, ho, -, -⟩ := h
  have hrow := ho.isRow encV_len
  obtain ⟨c0, c1, c2, f1, f2, hO⟩ := hc
  have HR := Lib.hid hrow
  clear ho hrow
  go_enter Try.func89, Try.ntmps89
  go_wp2_with fail
  go_region_held3 (fun w' => w'.cell? ⟨g, 0, none⟩ = some lessF ∧ w'.cell? ⟨g, 1, none⟩ = some (.slice A L.length c) ∧ w'.cell? ⟨g, 2, none⟩ = some (.int .i64 next)) ((simp [go_sem, *]))
    (first | (go_at_call 98; refine (cloneE_any A c L _ (HR.out.of (by (repeat (first | (with_reducible exact SinceOf.refl _) | (with_reducible assumption) | (with_reducible refine SinceOf.alloc ?_ _) | (with_reducible refine SinceOf.drew ?_) | (with_reducible refine SinceOf.drewN ?_ _) | (with_reducible refine SinceOf.later ?_ _) | (with_reducible refine SinceOf.further ?_ _) | (with_reducible refine SinceOf.setCell ?_ (by first | exact Nat.le_refl _ | (simp; done) | omega | (simp; omega)) _))))) (by omega)).mono ?_; rintro e _ ⟨A1, c3, rfl, ho, ⟨y5, rfl⟩⟩))
  all_goals
    go_wp2_with fail
    go_returns
    exact ⟨y5.wd.heap.size, rfl, ⟨A1, c3, ⟨by simp [go_sem], by simp [go_sem], by simp [go_sem], by simp [go_sem], by simp [go_sem], inferInstance⟩, Owns.alloc ho _, y5.size, fun e => by have := (ho.below _ e).2; omega⟩, by (repeat (first | (with_reducible exact SinceOf.refl _) | (with_reducible assumption) | (with_reducible refine SinceOf.alloc ?_ _) | (with_reducible refine SinceOf.drew ?_) | (with_reducible refine SinceOf.drewN ?_ _) | (with_reducible refine SinceOf.later ?_ _) | (with_reducible refine SinceOf.further ?_ _) | (with_reducible refine SinceOf.setCell ?_ (by first | exact Nat.le_refl _ | (simp; done) | omega | (simp; omega)) _)))⟩
theorem hall_any (g : Nat) (w : World) : Calls Try.prog 75 #[.pointer (some ⟨g, 0, none⟩)] w fun e w' => e = .returned (.func (.func 88) #[] #[.pointer (some ⟨w.heap.size, 0, none⟩)]) ∧ w' = w.alloc (.cells #[.pointer (some ⟨g, 0, none⟩)] 127) := by
  go_enter Try.func75, Try.ntmps75
  go_wp2_with fail
  go_returns
  exact ⟨rfl, rfl⟩
def heapN (w : World) (g : Nat) : Nat := match w.cell? ⟨g, 1, none⟩ with | some (.slice _ n _) => n | _ => 0
def boolN (v : Value) : Nat := match v with | .bool true => 1 | _ => 0
theorem HeapIs.of {w w' : World} {B g : Nat} {L : List (Int × Int)} {next : Int} (h : HeapIs w B g L next) (hs : SinceOf w w') : HeapIs w' B g L next := by
  obtain ⟨A, c, hc, ho, h1, h2⟩ := h
  exact ⟨A, c, hc.of hs, ho.of hs, h1, h2⟩
theorem HeapIs.above {w w' : World} {B g : Nat} {L : List (Int × Int)} {next : Int} (h : HeapIs w B g L next) (hs : Above B w w') : HeapIs w' B g L next := by
  obtain ⟨A, c, ⟨c0, c1, c2, f1, f2, hO⟩, ⟨ho1, ho2⟩, h1, h2⟩ := h
  have hlt := hO.elim fun q => q.lt
  have hb := hs.block g h1 hlt
  refine ⟨A, c, ⟨(World.cell?_of_block hb).trans c0, (World.cell?_of_block hb).trans c1, (World.cell?_of_block hb).trans c2, (World.frozen?_of_block hb).trans f1, (World.frozen?_of_block hb).trans f2, ⟨⟨Nat.lt_of_lt_of_le hlt hs.size⟩⟩⟩, ⟨ho1, ?_⟩, h1, h2⟩
  rcases ho2 with ho2 | ⟨q, cap, cur, hv, hbq, hg, r⟩
  · exact .inl ho2
  · refine .inr ⟨q, cap, cur, hv, hbq, ?_, r⟩
    rw [hs.block q hbq (Array.getElem?_eq_some_iff.1 hg).1]; exact hg
theorem HeapIs.size {w : World} {B g : Nat} {L : List (Int × Int)} {next : Int} (h : HeapIs w B g L next) : heapN w g = L.length := by
  obtain ⟨A, c, ⟨c0, c1, c2, f1, f2, hO⟩, -⟩ := h
  unfold heapN; rw [c1]
/-- What Pop tells of the values that are still to come. -/
def PopR (rest : List Int) (x : Int) (ok : Bool) (L : List (Int × Int)) : Prop := (ok = true ∧ ∃ post, rest = x :: post ∧ Drains L post) ∨ (ok = false ∧ rest = [] ∧ L = [])
theorem pop_any (B g : Nat) (L : List (Int × Int)) (next : Int) (rest : List Int) (w : World) (h : HeapIs w B g L next) (hord : HeapOrd L) (hL : L.length < 1099511627776) (hxs : Drains L rest) :
    Calls Try.prog 90 #[.pointer (some ⟨g, 0, none⟩)] w fun e w' => ∃ (x : Int) (ok : Bool) (L' : List (Int × Int)), e = .returned (.tuple #[.int .i64 x, .bool ok]) ∧ HeapIs w' B g L' next ∧ HeapOrd L' ∧ L'.length + boolN (.bool ok) = L.length ∧ Below B w w' ∧ PopR rest x ok L' := by
  have hB : B ≤ w.heap.size := by
    obtain ⟨A, c, hc, ho, h1, h2⟩ := h
    have := hc.there.elim fun q => q.lt
    omega
  cases L with
  | nil =>
    refine (pop_none B g next w h).calls.mono ?_
    rintro e _ ⟨rfl, x1, rfl⟩
    exact ⟨0, false, [], rfl, h.of (LaterOf.since ⟨x1, rfl⟩), HeapOrd.nil, rfl, x1.below.mono hB, .inr ⟨rfl, hxs.nil, rfl⟩⟩
  | cons p L =>
    refine (pop_some B g (p :: L) next w h hord hL (by simp)).mono ?_
    rintro e w' ⟨rfl, L', h1, h2, h3, h4⟩
    obtain ⟨r, hr, hd⟩ := hxs.step hord (by simp) h3
    refine ⟨_, true, L', rfl, h1, h2, ?_, h4, .inl ⟨rfl, r, hr, hd⟩⟩
    have := h3.length_eq
    simp at this ⊢
    simp [boolN]; omega
theorem wide_none (h : Fence.wide.depth.isSome = true) (n : Nat) : 1 ≤ n := by simp [Fence.wide] at h
set_option maxRecDepth 100000 in
set_option maxHeartbeats 4000000 in
theorem hseq_any (B g b : Nat) (L : List (Int × Int)) (next : Int) (xs : List Int) (w : World) (h : HeapIs w B g L next) (hord : HeapOrd L) (hL : L.length < 1099511627776) (hxs : Drains L xs) (hb : w.cell? ⟨b, 0, none⟩ = some (.pointer (some ⟨g, 0, none⟩))) (hbO : Nonempty (Old w b)) (n : Nat) :
    SeqL Fence.wide n Try.prog 88 #[.pointer (some ⟨b, 0, none⟩)] (fun x => #[.int .i64 x]) xs w := by
  intro l J Jx W hW hJ hJx hY h0
  have hbW : W.cell? ⟨b, 0, none⟩ = some (.pointer (some ⟨g, 0, none⟩)) := by
    obtain ⟨z, rfl⟩ := hW
    rw [Since.cell]; exact hb
  have hH : HeapIs W B g L next := h.of hW
  have HH := Lib.hid (And.intro hH (And.intro hord hxs))
  have HY := Lib.hid hY
  have HJ := Lib.hid (And.intro hJ (And.intro hJx h0))
  clear h hH hb hY hJ hJx h0 hbO hW hord hxs
  refine callsIn_of_wp Try.func88 rfl trivial ?_ rfl
  simp only [Try.ntmps88, List.size_toArray, List.length_cons, List.length_nil, Nat.reduceAdd, Nat.reduceSub, Array.replicate_succ, Array.replicate_zero, List.push_toArray, List.append_toArray, List.nil_append, List.cons_append]
  gi_wp2_with fail
  refine ⟨trivial, fun h => wide_none h _, ?_⟩
  refine (callsIn_wide.2 (hclone_any B g L next W HH.out.1 hL)).mono ?_
  rintro e _ ⟨gc, rfl, hc, ⟨y1, rfl⟩⟩
  have HC := Lib.hid hc
  clear hc hbW
  gi_wp2_with fail
  refine ⟨trivial, fun h => wide_none h _, ?_⟩
  refine (callsIn_wide.2 (pop_any W.heap.size gc L next xs y1.wd HC.out HH.out.2.1 hL HH.out.2.2)).mono ?_
  rintro e W1 ⟨x, ok, L1, rfl, hh1, ho1, hn1, hb1, hr1⟩
  have H1 := Lib.hid (And.intro hh1 (And.intro ho1 (And.intro (show J [] W1 from HJ.out.1 _ _ _ (HJ.out.1 _ _ _ HJ.out.2.2 y1.below) hb1) hr1)))
  have hL1 : L1.length < 1099511627776 := by omega
  clear hh1 ho1 hn1 hb1 hr1
  gi_wp2_with fail
  gi_loopw [4, 5] (fun s4 s5 wr => ∃ (pre rest : List Int) (x : Int) (ok : Bool) (L2 : List (Int × Int)), s4 = .int .i64 x ∧ s5 = .bool ok ∧ xs = pre ++ rest ∧ HeapIs wr W.heap.size gc L2 next ∧ HeapOrd L2 ∧ L2.length < 1099511627776 ∧ J pre wr ∧ PopR rest x ok L2) (fun s4 s5 wr => heapN wr gc + boolN s5)
  case atStart => exact ⟨[], xs, x, ok, L1, rfl, rfl, rfl, H1.out.1, H1.out.2.1, hL1, H1.out.2.2.1, H1.out.2.2.2⟩
  case round =>
    obtain ⟨pre, rest, x2, ok2, L2, rfl, rfl, hxs2, hh2, ho2, hL2, hj2, hr2⟩ := hrel
    have hz2 := hh2.size
    rcases hr2 with ⟨rfl, post, rfl, hd⟩ | ⟨rfl, rfl, rfl⟩
    · obtain ⟨fn, tmps, assign, body, hy, hR⟩ := HY.out pre x2 post wr hxs2 hj2
      have HE := Lib.hid (And.intro hxs2 (And.intro hh2 (And.intro ho2 (And.intro hd hz2))))
      clear hxs2 hh2 ho2 hd hj2 hz2
      gi_wp2_with fail
      refine ⟨fun h => wide_none h _, hR.mono ?_⟩
      rintro e W3 (⟨rfl, hJ3, hk3⟩ | ⟨rfl, hJx3⟩)
      · have HF := Lib.hid (And.intro hJ3 (HE.out.2.1.above hk3))
        clear hJ3 hk3 hy hR
        gi_wp2_with fail
        refine ⟨trivial, fun h => wide_none h _, ?_⟩
        refine (callsIn_wide.2 (pop_any W.heap.size gc L2 next post W3 HF.out.2 HE.out.2.2.1 hL2 HE.out.2.2.2.1)).mono ?_
        rintro e W4 ⟨x4, ok4, L4, rfl, hh4, ho4, hn4, hb4, hr4⟩
        have HG := Lib.hid (And.intro hh4 (And.intro ho4 (And.intro hn4 (And.intro (show J (pre ++ [x2]) W4 from HJ.out.1 _ _ _ HF.out.1 hb4) hr4))))
        clear hh4 ho4 hn4 hb4 hr4
        gi_wp2_with fail
        go_roundw
        case rel => exact ⟨pre ++ [x2], post, x4, ok4, L4, rfl, rfl, by rw [HE.out.1]; simp, HG.out.1, HG.out.2.1, by have := HG.out.2.2.1; omega, HG.out.2.2.2.1, HG.out.2.2.2.2⟩
        case measure => rw [HG.out.1.size, HE.out.2.1.size, HG.out.2.2.1]; simp [boolN]
      · have HF := Lib.hid hJx3
        clear hJx3 hy hR
        gi_wp2_with fail
        refine bodyPost_ret (results_none rfl _ _ _) rfl ?_
        exact ⟨⟨_, rfl⟩, .inr ⟨_, HF.out⟩⟩
    · simp at hxs2
      have HE := Lib.hid (And.intro hxs2 hj2)
      clear hxs2 hj2
      gi_wp2_with fail
      go_end0
      exact ⟨⟨_, rfl⟩, .inl (by rw [HE.out.1]; exact HE.out.2)⟩
end Go.Proofs.Ytdcncalcncomoaa
