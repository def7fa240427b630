/- Layer 10: slices.SortedFunc over slices.Values. -/
import Derived.Test.YticmfmcflikneaaHull6
import Derived.Test.YticmfmcflikneaaRange4
import Derived.Shelf.Abstract
import Derived.OwnWalkIn
import Derived.TacticsInMore
import Derived.LoopNIn
import Derived.LoopIn
namespace Go.Proofs.Yticmfmcflikneaa
open Go.RowKit Go.Sort
set_option linter.unusedVariables false
attribute [local go_sem ↓] Go.wp_at_zero Go.wp_at_succ

section
variable {α : Type} {enc : α → List Value} {k : Nat} {P : Program} {base : Nat} {e : TypeId} {F : Fence} {n : Nat}
theorem wpListIn_append_row {w : World} {ops : Array Oper} {rest : List Oper} {o : Oper} {a : Act} {Q : Exit → Act → World → Prop} (hgd : o.guard = none) (s x : Operand) (t : TypeId)
    (hop : o.op = .call { callee := .builtin .append, args := #[s, x], argTypes := #[t, t] })
    (hk : ∀ x, (enc x).length = k) (hk0 : 0 < k) (h1c : ∀ x, ∀ u ∈ enc x, u.oneCell' = true) (i : TypeInfo) (z : Value) (bytes : Nat) (ht : P.underlying t = some (.slice e)) (hi : P.info? e = some i) (hz : i.zero = some z)
    (hsize : i.size = k) (hby : i.bytes = bytes) (hzs : z.cells.size = k) {A : Option Addr} {c : Nat} {l : List α} (hs : a.eval s = .slice A l.length c) (hown : Owns enc k base e w A c l) {B : Option Addr} {d : Nat} {m : List α} (hx : a.eval x = .slice B m.length d) (hm : IsRow enc k w B d m)
    (h63 : l.length + m.length ≤ maxLen) (hbytes : (l.length + m.length) * bytes ≤ 140737488355328) (hbase : base ≤ w.heap.size)
    (h : ∀ A' c' w', Owns enc k base e w' A' c' (l ++ m) → w.grownBy w' (blockOf A) → (blockOf A' = blockOf A ∨ blockOf A' = some w.heap.size) → wpListIn F n P ops Q rest (a.put o.dst (.slice A' (l.length + m.length) c')) w') : wpListIn F n P ops Q (o :: rest) a w := by
  refine wpListIn_plain hgd fun K hK' => ?_
  obtain ⟨A', c', w', hrun, h2, h3, h4⟩ := run_append_row (P := P) hk hk0 h1c t o.type i z bytes ht hi hz hsize hby hzs hown hm h63 hbytes hbase
  unfold Oper.wpIn
  refine ⟨?_, ?_⟩
  · simp [Oper.about, hop, resolve, Target.leads, Sem.run_pure]
  · rw [Oper.semAt_plain F _ _ (by rw [hop]; intro c hc'; cases hc')]
    simp [execOp, hop, resolve, invoke, builtin, hs, hx, hrun, Result.andThen]
    exact hK' _ _ (h A' c' w' h2 h3 h4)
end
theorem Owns.not_deferred {α : Type} {enc : α → List Value} {k base : Nat} {e : TypeId} {w : World} {A : Option Addr} {c : Nat} {l : List α} (h : Owns enc k base e w A c l) {D : Nat} {o : Obj} (hd : w.heap[D]? = some o) (ho : ∀ cs t f, o ≠ .cells cs t f) : blockOf A ≠ some D := by
  rcases h.2 with ⟨h', _⟩ | ⟨g', cap, cur, h', hb, hg, _⟩
  · simp only [Value.slice.injEq] at h'
    rw [h'.1]; intro e; cases e
  · simp only [Value.slice.injEq] at h'
    rw [h'.1]
    intro e
    injection e with e
    simp only at e
    subst e
    rw [hg] at hd
    injection hd with hd
    exact ho _ _ _ hd.symm
@[local go_sem ↓] theorem semAt_free (l : Nat) (ρ : Operand → Value) (o : Oper) (h : (match o.op with | .defer _ => false | _ => true) = true) : Oper.semAt (some l) ρ o = execOp ρ o :=
  Oper.semAt_eq _ _ _ fun c e => by rw [e] at h; cases h
theorem wide_none (h : Fence.wide.depth.isSome = true) (n : Nat) : 1 ≤ n := by simp [Fence.wide] at h
set_option maxRecDepth 100000 in
set_option maxHeartbeats 4000000 in
theorem valuesSeq_any (A : Option Addr) (c : Nat) (l : List (Int × Int)) (b : Nat) (w : World) (h : IsVecs w A c l) (hl : l.length < 4611686018427387904) (hb : w.cell? ⟨b, 0, none⟩ = some (.slice A l.length c)) (hbO : Nonempty (Old w b)) (w1 : World) (hw1 : SinceOf w w1) (n : Nat) :
    SeqG (fun W => SinceOf w W) Fence.wide n Try.prog 94 #[.pointer (some ⟨b, 0, none⟩)] (fun p : Int × Int => #[vv p.1 p.2]) l w1 := by
  intro lb J Jx W hW hJ hJx hKp hY h0
  replace hW := hw1.trans hW
  clear hw1
  have hbW : W.cell? ⟨b, 0, none⟩ = some (.slice A l.length c) := by
    obtain ⟨z, rfl⟩ := hW
    rw [Since.cell]; exact hb
  have hbOW : Nonempty (Old W b) := by obtain ⟨z, rfl⟩ := hW; infer_instance
  have HY := Lib.hid hY
  have HJ := Lib.hid (And.intro hJ (And.intro hJx (And.intro hKp h0)))
  have H := Lib.hid h
  clear h hb hY hJ hJx hKp h0 hbO hW
  refine callsIn_of_wp Try.func94 rfl trivial ?_ rfl
  simp only [Try.ntmps94, List.size_toArray, List.length_cons, List.length_nil, Nat.reduceAdd, Nat.reduceSub, Array.replicate_succ, Array.replicate_zero, List.push_toArray, List.append_toArray, List.nil_append, List.cons_append]
  gi_wp2_with fail
  gi_loopw [7] (fun s7 wr => ∃ (pre post : List (Int × Int)) (k : Nat), s7 = .int .i64 k ∧ k = pre.length ∧ l = pre ++ post ∧ J pre wr) (fun s7 wr => l.length - (intOf s7).toNat)
  case atStart => exact ⟨[], l, 0, rfl, rfl, rfl, HJ.out.2.2.2⟩
  case round =>
    obtain ⟨pre, post, k, rfl, hk, hl2, hj⟩ := hrel
    cases post with
    | cons p post =>
      have hS := HJ.out.2.2.1 _ _ hj
      obtain ⟨z, hz⟩ := hS
      subst hz
      have hlt : k < l.length := by rw [hl2, hk]; simp
      have hr0 := H.out
      obtain ⟨g, off, hA, hr⟩ := hr0.at_ (by omega)
      subst hA
      have hO := hr.there
      have a0 := hr.v0 k hlt
      have a1 := hr.v1 k hlt
      have hp : l[k] = p := by simp [hl2, hk]
      rw [hp] at a0 a1
      have hj2 : J pre (z.wd.alloc (.cells #[.int .i64 p.1, .int .i64 p.2] 32)) := HJ.out.1 _ _ _ hj ((SinceOf.refl _).alloc _)
      obtain ⟨fn, tmps, assign, body, hy, hR⟩ := HY.out pre p post _ hl2 hj2
      have HE := Lib.hid (And.intro hl2 (And.intro hk hp))
      obtain ⟨px, py⟩ := p
      simp only at a0 a1 hy hR
      clear hl2 hk hp hj hj2 hr hr0
      gi_wp2_with fail
      refine ⟨fun h => wide_none h _, hR.mono ?_⟩
      rintro e W3 (⟨rfl, hJ3⟩ | ⟨rfl, hJx3⟩)
      · have HF := Lib.hid hJ3
        clear hJ3 hy hR
        gi_wp2_with fail
        go_roundw
        case rel => exact ⟨pre ++ [(px, py)], post, k + 1, by go_num, by rw [HE.out.2.1]; simp, by rw [HE.out.1]; simp, HF.out⟩
        case measure => simp [intOf]; omega
      · have HF := Lib.hid hJx3
        clear hJx3 hy hR
        gi_wp2_with fail
        refine bodyPost_ret (results_none rfl _ _ _) rfl ?_
        exact ⟨⟨_, rfl⟩, .inr ⟨_, HF.out⟩⟩
    | nil =>
      have hkl : k = l.length := by rw [hl2, hk]; simp
      have HE := Lib.hid (And.intro (show l = pre by rw [hl2]; simp) hj)
      clear hl2 hk hj
      subst hkl
      gi_wp2_with fail
      go_end0
      exact ⟨⟨_, rfl⟩, .inl (by rw [HE.out.1]; exact HE.out.2)⟩
/-- What has been appended so far; gs is the variable's block. -/
structure AppI (w : World) (gs : Nat) (pre : List (Int × Int)) (W : World) : Prop where
  row : ∃ (A : Option Addr) (c : Nat), W.cell? ⟨gs, 0, none⟩ = some (.slice A pre.length c) ∧ OwnVecs (w.heap.size + 3) W A c pre
  free : W.frozen? ⟨gs, 0, none⟩ = false
  since : SinceOf w W
  lt : gs < W.heap.size
theorem AppI.grown {w A B : World} {gs : Nat} {pre : List (Int × Int)} (h : AppI w gs pre A) (hg : gs ≠ w.heap.size + 2) (hgr : A.grownBy B (some (w.heap.size + 2))) : AppI w gs pre B := by
  obtain ⟨⟨A', c', h1, h2⟩, h3, h4, h5⟩ := h
  have hb := hgr.block gs h5 (by intro e; injection e with e; omega)
  refine ⟨⟨A', c', (World.cell?_of_block hb).trans h1, h2.kept hgr (.inr fun e => by have := (h2.below _ e).1; omega)⟩, (World.frozen?_of_block hb).trans h3, SinceOf.grown h4 hgr (fun k e => by cases e; omega), Nat.lt_of_lt_of_le h5 hgr.size⟩
set_option maxRecDepth 100000 in
set_option maxHeartbeats 4000000 in
theorem appendSeq_any (A : Option Addr) (c : Nat) (l : List (Int × Int)) (b : Nat) (w : World) (h : IsVecs w A c l) (hl : l.length * 16 ≤ 140737488355328) (hb : w.cell? ⟨b, 0, none⟩ = some (.slice A l.length c)) (hbO : Nonempty (Old w b)) :
    Calls Try.prog 100 #[.slice none 0 0, .func (.func 94) #[] #[.pointer (some ⟨b, 0, none⟩)]] w fun e w' => ∃ A' c', e = .returned (.slice A' l.length c') ∧ OwnVecs w.heap.size w' A' c' l ∧ SinceOf w w' := by
  have H := Lib.hid (And.intro h (And.intro hb hbO))
  obtain ⟨i0, hi, hz0, hz1, hz2⟩ := info_parts infoVec
  have HI := Lib.hid (And.intro hi (And.intro hz0 (And.intro hz1 hz2)))
  clear h hb hbO hi hz0 hz1 hz2
  refine (callsIn_wide (n := 3)).1 ?_
  refine callsIn_of_wp_marks Try.func100 rfl trivial ?_ rfl
  refine wpIn_wide.2 ?_
  simp only [Try.ntmps100, List.size_toArray, List.length_cons, List.length_nil, Nat.reduceAdd, Nat.reduceSub, Array.replicate_succ, Array.replicate_zero, List.push_toArray, List.append_toArray, List.nil_append, List.cons_append]
  go_wp2_with fail
  refine (wpIn_wide (n := 3)).1 ?_
  refine wpIn_rangeFunc_grown rfl (by decide) (gf := 94) (lb := #[.pointer (some ⟨b, 0, none⟩)]) rfl trivial (enters_of Try.func94 (by kernel_rfl) rfl)
    (valuesSeq_any A c l b w H.out.1 (by omega) H.out.2.1 H.out.2.2 _ (by (repeat (first | (with_reducible exact SinceOf.refl _) | (with_reducible assumption) | (with_reducible refine SinceOf.alloc ?_ _) | (with_reducible refine SinceOf.drew ?_) | (with_reducible refine SinceOf.drewN ?_ _) | (with_reducible refine SinceOf.later ?_ _) | (with_reducible refine SinceOf.further ?_ _) | (with_reducible refine SinceOf.setCell ?_ (by first | exact Nat.le_refl _ | (simp; done) | omega | (simp; omega)) _)))) _) (fun _ => rfl)
    (AppI w w.heap.size) (fun _ _ _ => False) (fun s X Y hs hg => hs.grown (by omega) (by simpa using hg)) (fun _ _ _ _ h _ => h.elim) (fun s X hs => hs.since)
    ⟨⟨none, 0, by simp, Owns.nil _ _ _ _ _⟩, by simp, by (repeat (first | (with_reducible exact SinceOf.refl _) | (with_reducible assumption) | (with_reducible refine SinceOf.alloc ?_ _) | (with_reducible refine SinceOf.drew ?_) | (with_reducible refine SinceOf.drewN ?_ _) | (with_reducible refine SinceOf.later ?_ _) | (with_reducible refine SinceOf.further ?_ _) | (with_reducible refine SinceOf.setCell ?_ (by first | exact Nat.le_refl _ | (simp; done) | omega | (simp; omega)) _))), by simp⟩ ?round ?done ?stop
  case round =>
    rintro lp pre p post W hxs hsz hI
    obtain ⟨px, py⟩ := p
    apply Exists.intro
    refine ⟨W.alloc (.cells #[.int .i64 px, .int .i64 py] 32), (SinceOf.refl _).alloc _, ?_, ?_⟩
    · intro K hK
      gi_wp2_with fail
      exact hK
    · rintro W2 hgr2 hsz2 hI2
      obtain ⟨⟨A4, c4, k0, ho⟩, kf, ⟨z, rfl⟩, hlt⟩ := hI2
      simp only [World.size_alloc] at hsz hsz2 hgr2
      have hneW : some W.heap.size ≠ some (w.heap.size + 1 + 1) := by intro e; injection e with e; omega
      have k1 : z.wd.cell? ⟨W.heap.size, 0, none⟩ = some (.int .i64 px) := hgr2.cell (by simp [go_sem]) hneW
      have k2 : z.wd.cell? ⟨W.heap.size, 1, none⟩ = some (.int .i64 py) := hgr2.cell (by simp [go_sem]) hneW
      have hWs : W.heap.size < z.wd.heap.size := by have := hgr2.size; simp at this; omega
      have hOW : Nonempty (Old z.wd W.heap.size) := ⟨⟨hWs⟩⟩
      have hOg : Nonempty (Old z.wd w.heap.size) := ⟨⟨hlt⟩⟩
      have hpl : pre.length < l.length := by rw [hxs]; simp
      have hne0 : some w.heap.size ≠ blockOf A4 := fun e => by have := (ho.below _ e.symm).1; omega
      have HO := Lib.hid (And.intro ho (And.intro hxs hgr2))
      clear ho hxs hgr2 hI
      gi_wp2_with (gi_at_builtin; refine wpListIn_append_row rfl (.tmp 8) (.tmp 10) 22 rfl encV_len (by omega) encV_one i0 _ 16 Try.underlying22 HI.out.1 HI.out.2.1 HI.out.2.2.1 HI.out.2.2.2 rfl (l := pre) (A := A4) (c := c4) (base := w.heap.size + 3) rfl (HO.out.1.of (by (repeat (first | (with_reducible exact SinceOf.refl _) | (with_reducible assumption) | (with_reducible refine SinceOf.alloc ?_ _) | (with_reducible refine SinceOf.drew ?_) | (with_reducible refine SinceOf.drewN ?_ _) | (with_reducible refine SinceOf.later ?_ _) | (with_reducible refine SinceOf.further ?_ _) | (with_reducible refine SinceOf.setCell ?_ (by first | exact Nat.le_refl _ | (simp; done) | omega | (simp; omega)) _))))) (m := [(px, py)]) rfl (isRow_atV _ _ px py (by first | rfl | simp)) (by unfold maxLen; simp; omega) (by simp; omega) (by simp; omega) ?_; intro A5 c5 w5 ho5 hgr5 hbl5; have n0 : w5.cell? ⟨w.heap.size, 0, none⟩ = some (.slice A4 pre.length c4) := hgr5.cell (by simp [go_sem, *]) hne0; have nf : w5.frozen? ⟨w.heap.size, 0, none⟩ = false := (World.frozen?_of_block (hgr5.block w.heap.size (by simp; omega) hne0)).trans (by simp [go_sem, *]))
      have hne5 : blockOf A5 ≠ some w.heap.size := fun e => by have := (ho5.below _ e).1; omega
      have hs5 := hgr5.size
      simp only [World.size_alloc] at hs5
      have keep : ∀ k, k ≠ w.heap.size → k < w.heap.size + 3 → (w5.setCell ⟨w.heap.size, 0, none⟩ (.slice A5 (pre.length + 1) c5)).heap[k]? = z.wd.heap[k]? := fun k hk hk3 => by
        rw [Below.heap_setCell _ _ _ k (by omega), hgr5.block k (by simp; omega) (fun e => by have := (HO.out.1.below _ e.symm).1; omega)]
        exact Below.heap_alloc _ _ _ (by omega)
      simp only [World.size_alloc]
      refine ⟨⟨by simp; omega, keep _ (by omega) (by omega), keep _ (by omega) (by omega)⟩, ⟨A5, c5, ?_, ?_⟩, by simpa using nf, ?_, by simp; omega⟩
      · rw [List.length_append]
        exact World.cell?_setCell_same _ _ _ n0
      · exact ho5.kept (grownBy_setCell (p := ⟨w.heap.size, 0, none⟩) rfl _) (.inr hne5)
      · exact SinceOf.setCell (SinceOf.grown (by (repeat (first | (with_reducible exact SinceOf.refl _) | (with_reducible assumption) | (with_reducible refine SinceOf.alloc ?_ _) | (with_reducible refine SinceOf.drew ?_) | (with_reducible refine SinceOf.drewN ?_ _) | (with_reducible refine SinceOf.later ?_ _) | (with_reducible refine SinceOf.further ?_ _) | (with_reducible refine SinceOf.setCell ?_ (by first | exact Nat.le_refl _ | (simp; done) | omega | (simp; omega)) _)))) hgr5 (fun b hb => by have := (HO.out.1.below b hb).1; omega)) (Nat.le_refl _) _
  case done =>
    rintro D W hD ⟨⟨A4, c4, k0, ho⟩, kf, ⟨z, rfl⟩, hlt⟩ hK
    have hOg : Nonempty (Old z.wd w.heap.size) := ⟨⟨hlt⟩⟩
    simp only [World.size_alloc] at hD
    have HO := Lib.hid (And.intro ho (And.intro hK hD))
    clear ho hK hD
    go_wp2_with fail
    refine ⟨by simp, .inl ⟨_, _, rfl, run_takeDeferred HO.out.2.1, ?_⟩⟩
    refine ⟨.slice A4 l.length c4, ?_, A4, c4, rfl, ?_, ?_⟩
    · simp [results, Try.results100, go_sem]
    · exact (HO.out.1.kept (grownBy_putObj' _ _ _) (.inr (HO.out.1.not_deferred HO.out.2.1 (by intro _ _ _ h; cases h)))).base_le (by omega)
    · exact SinceOf.grown ⟨z, rfl⟩ (grownBy_putObj' _ _ _) (fun b hb => by cases hb; have := HO.out.2.2; omega)
  case stop => exact fun _ _ _ _ _ h _ => h.elim
end Go.Proofs.Yticmfmcflikneaa
/- Layer 10: the sorted points, compacted and reversed: the row is empty or the call's own. -/
namespace Go.Proofs.Yticmfmcflikneaa
open Go.RowKit Go.Sort
set_option linter.unusedVariables false
attribute [local go_sem ↓] Go.wp_at_zero Go.wp_at_succ

/-- A slice that the call itself has made, or an empty one. -/
structure LiveV (base : Nat) (w : World) (A : Option Addr) (c : Nat) (l : List (Int × Int)) : Prop where
  own : ∀ b, blockOf A = some b → base ≤ b ∧ b < w.heap.size
  nil : A = none → c = 0
  row : l = [] ∨ ∃ g, A = some ⟨g, 0, none⟩ ∧ Live encV 2 w g 0 l ∧ l.length ≤ c
section
variable {base b' : Nat} {w w' : World} {A : Option Addr} {c : Nat} {l : List (Int × Int)}
theorem LiveV.isRow (h : LiveV base w A c l) : IsVecs w A c l := by
  refine ⟨h.nil, ?_⟩
  rcases h.row with h | ⟨g, e, hl, _⟩
  · exact .inl h
  · exact .inr ⟨g, 0, e, hl.row⟩
theorem LiveV.of (h : LiveV base w A c l) (hs : SinceOf w w') : LiveV base w' A c l := by
  refine ⟨fun b hb => ⟨(h.own b hb).1, ?_⟩, h.nil, ?_⟩
  · obtain ⟨z, rfl⟩ := hs
    exact Nat.lt_of_lt_of_le (h.own b hb).2 z.size
  · rcases h.row with h | ⟨g, e, hl, hc⟩
    · exact .inl h
    · exact .inr ⟨g, e, hl.of hs, hc⟩
theorem Owns.liveV (h : OwnVecs base w A c l) : LiveV base w A c l := by
  refine ⟨h.below, ?_, ?_⟩
  · rcases h.2 with ⟨h', _⟩ | ⟨g', cap, cur, h', _⟩
    · simp only [Value.slice.injEq] at h'
      exact fun _ => h'.2.2
    · simp only [Value.slice.injEq] at h'
      intro e; rw [h'.1] at e; cases e
  · by_cases h0 : l = []
    · exact .inl h0
    · obtain ⟨g, e, hb, hl⟩ := h.live encV_len (List.length_pos_iff.2 h0)
      refine .inr ⟨g, e, hl, ?_⟩
      rcases h.2 with ⟨h', h''⟩ | ⟨g', cap, cur, h', _, _, hn, _⟩
      · exact absurd (List.length_eq_zero_iff.1 h'') h0
      · simp only [Value.slice.injEq] at h'
        omega
end
theorem collect_any (A : Option Addr) (c : Nat) (l : List (Int × Int)) (b : Nat) (w : World) (h : IsVecs w A c l) (hl : l.length * 16 ≤ 140737488355328) (hb : w.cell? ⟨b, 0, none⟩ = some (.slice A l.length c)) (hbO : Nonempty (Old w b)) :
    Calls Try.prog 86 #[.func (.func 94) #[] #[.pointer (some ⟨b, 0, none⟩)]] w fun e w' => ∃ A' c', e = .returned (.slice A' l.length c') ∧ OwnVecs w.heap.size w' A' c' l ∧ SinceOf w w' := by
  have H := Lib.hid (And.intro h (And.intro hb hbO))
  clear h hb hbO
  go_enter Try.func86, Try.ntmps86
  go_wp2_with fail
  refine (appendSeq_any A c l b w H.out.1 hl H.out.2.1 H.out.2.2).mono ?_
  rintro e _ ⟨A1, c1, rfl, ho, ⟨x1, rfl⟩⟩
  have HO := Lib.hid ho
  clear ho
  go_wp2_with fail
  go_returns
  exact ⟨A1, c1, rfl, HO.out, ⟨x1, rfl⟩⟩
theorem values_any (A : Option Addr) (c : Nat) (l : List (Int × Int)) (w : World) :
    Calls Try.prog 62 #[.slice A l.length c] w fun e w' => ∃ b, e = .returned (.func (.func 94) #[] #[.pointer (some ⟨b, 0, none⟩)]) ∧ w'.cell? ⟨b, 0, none⟩ = some (.slice A l.length c) ∧ Nonempty (Old w' b) ∧ SinceOf w w' := by
  go_enter Try.func62, Try.ntmps62
  go_wp2_with fail
  go_returns
  refine ⟨w.heap.size, rfl, by simp [go_sem], ⟨⟨by simp⟩⟩, by (repeat (first | (with_reducible exact SinceOf.refl _) | (with_reducible assumption) | (with_reducible refine SinceOf.alloc ?_ _) | (with_reducible refine SinceOf.drew ?_) | (with_reducible refine SinceOf.drewN ?_ _) | (with_reducible refine SinceOf.later ?_ _) | (with_reducible refine SinceOf.further ?_ _) | (with_reducible refine SinceOf.setCell ?_ (by first | exact Nat.le_refl _ | (simp; done) | omega | (simp; omega)) _)))⟩
theorem sortedX_any (A : Option Addr) (c : Nat) (l : List (Int × Int)) (b : Nat) (w : World) (h : IsVecs w A c l) (hl : l.length * 16 ≤ 140737488355328) (hb : w.cell? ⟨b, 0, none⟩ = some (.slice A l.length c)) (hbO : Nonempty (Old w b)) :
    Calls Try.prog 61 #[.func (.func 94) #[] #[.pointer (some ⟨b, 0, none⟩)], .func (.func 63) #[] #[]] w fun e w' => ∃ A' c', e = .returned (.slice A' (xsort l).length c') ∧ LiveV w.heap.size w' A' c' (xsort l) ∧ SinceOf w w' := by
  have H := Lib.hid (And.intro h (And.intro hb hbO))
  clear h hb hbO
  have hs := fun p cap W => AnyF.slices_SortFunc_none (P := Try.prog) { Try.sortVec with } p cap (.func (.func 63) #[] #[]) W
  change ∀ p cap W, Calls Try.prog 93 _ _ _ at hs
  have HS := Lib.hid hs
  clear hs
  go_enter Try.func61, Try.ntmps61
  go_wp2_with fail
  refine (collect_any A c l b w H.out.1 hl H.out.2.1 H.out.2.2).mono ?_
  rintro e _ ⟨A1, c1, rfl, ho, ⟨x1, rfl⟩⟩
  have hlv := Owns.liveV ho
  have HO := Lib.hid hlv
  have hlen := xsort_length l
  clear ho hlv
  by_cases h0 : l = []
  · subst h0
    simp only [List.length_nil] at *
    go_wp2_with fail
    refine (HS.out _ _ _).mono ?_
    rintro e _ ⟨rfl, rfl⟩
    go_wp2_with fail
    go_returns
    have e0 : xsort [] = [] := by unfold xsort; simp
    rw [e0]
    exact ⟨A1, c1, rfl, HO.out, ⟨x1, rfl⟩⟩
  · obtain ⟨g, rfl, hL, hc⟩ := HO.out.row.resolve_left h0
    have HL := Lib.hid hL
    clear hL
    go_wp2_with fail
    refine (sortX_any g 0 c1 l _ HL.out (by omega)).mono ?_
    rintro e w2 ⟨rfl, hL2, hg2⟩
    have H2 := Lib.hid (And.intro hL2 hg2)
    clear hL2 hg2
    go_wp2_with fail
    go_returns
    have hgb := HO.out.own g rfl
    refine ⟨some ⟨g, 0, none⟩, c1, by rw [hlen]; rfl, ⟨?_, (by intro h; cases h), .inr ⟨g, rfl, H2.out.1, by omega⟩⟩, (SinceOf.further (SinceOf.refl w) x1).grown H2.out.2 (by intro k hk; injection hk with hk; omega)⟩
    intro k hk
    injection hk with hk
    subst hk
    exact ⟨hgb.1, Nat.lt_of_lt_of_le hgb.2 H2.out.2.size⟩
theorem compactX_any (A : Option Addr) (base c : Nat) (l : List (Int × Int)) (w : World) (h : LiveV base w A c l) (hn : l.length ≤ 4611686018427387904) :
    Calls Try.prog 66 #[.slice A l.length c] w fun e w' => e = .returned (.slice A (compactV l).length c) ∧ LiveV base w' A c (compactV l) ∧ w.grownBy w' (blockOf A) := by
  by_cases h0 : l = []
  · subst h0
    have e0 : compactV [] = [] := by unfold compactV; simp [Lib.compactUpTo]
    rw [e0]
    refine (compact_none A c w).mono ?_
    rintro e _ ⟨rfl, rfl⟩
    exact ⟨rfl, h, World.grownBy.refl _ _⟩
  · obtain ⟨g, rfl, hL, hc⟩ := h.row.resolve_left h0
    refine (compact_any g 0 c l w hL hn hc).mono ?_
    rintro e w' ⟨rfl, hL2, hg⟩
    refine ⟨rfl, ⟨fun b hb => ⟨(h.own b hb).1, Nat.lt_of_lt_of_le (h.own b hb).2 hg.size⟩, (by intro h; cases h), .inr ⟨g, rfl, hL2, ?_⟩⟩, hg⟩
    have : (compactV l).length ≤ l.length := by unfold compactV Lib.compactUpTo; rw [List.length_map]; exact Nat.le_trans (List.length_filter_le _ _) (by simp)
    omega
theorem reverse_none (A : Option Addr) (c : Nat) (w : World) :
    Calls Try.prog 69 #[.slice A 0 c] w fun e w' => e = .returned (.tuple #[]) ∧ w = w' := by
  go_enter Try.func69, Try.ntmps69
  go_wp2_with fail
  go_loopg [2, 3] 1 (fun gas s2 s3 wr => ∃ kk : Int, s2 = .int .i64 0 ∧ s3 = .int .i64 kk ∧ kk < 0 ∧ wr = w)
  case atStart => exact ⟨-1, rfl, rfl, by decide, rfl⟩
  case round =>
    obtain ⟨kk, rfl, rfl, hk, rfl⟩ := hrel
    have hk2 : ¬ (0 : Int) < kk := by omega
    go_wp2_with fail
    go_end0
    exact ⟨rfl, rfl⟩
theorem reverseX_any (A : Option Addr) (base c : Nat) (l : List (Int × Int)) (w : World) (h : LiveV base w A c l) (hn : l.length < 4611686018427387904) :
    Calls Try.prog 69 #[.slice A l.length c] w fun e w' => e = .returned (.tuple #[]) ∧ LiveV base w' A c l.reverse ∧ w.grownBy w' (blockOf A) := by
  by_cases h0 : l = []
  · subst h0
    refine (reverse_none A c w).mono ?_
    rintro e _ ⟨rfl, rfl⟩
    exact ⟨rfl, h, World.grownBy.refl _ _⟩
  · obtain ⟨g, rfl, hL, hc⟩ := h.row.resolve_left h0
    refine (reverse_any g 0 c l w hL hn).mono ?_
    rintro e w' ⟨rfl, hL2, hg⟩
    exact ⟨rfl, ⟨fun b hb => ⟨(h.own b hb).1, Nat.lt_of_lt_of_le (h.own b hb).2 hg.size⟩, (by intro h; cases h), .inr ⟨g, rfl, hL2, by simpa using hc⟩⟩, hg⟩
end Go.Proofs.Yticmfmcflikneaa
