/- Layer 52: the program's Best. -/
import Derived.Test.YtdcncalcncomoaaSch54
import Derived.Laws.EntriesVeiled
import Derived.Deep.RegionHeld3
namespace Go.Proofs.Ytdcncalcncomoaa
open Go.RowKit Go.Sort
set_option linter.unusedVariables false
attribute [local go_sem ↓] Go.wp_at_zero Go.wp_at_succ

/-- All blocks but those named hold what they held. -/
structure Keeps (gs : List Nat) (w w' : World) : Prop where
  size : w.heap.size ≤ w'.heap.size
  cell : ∀ g i, g < w.heap.size → g ∉ gs → w'.cell? ⟨g, i, none⟩ = w.cell? ⟨g, i, none⟩
  free : ∀ g i, g < w.heap.size → g ∉ gs → w'.frozen? ⟨g, i, none⟩ = w.frozen? ⟨g, i, none⟩
theorem Keeps.refl (gs : List Nat) (w : World) : Keeps gs w w := ⟨Nat.le_refl _, fun _ _ _ _ => rfl, fun _ _ _ _ => rfl⟩
theorem Keeps.trans {gs : List Nat} {a b c : World} (h : Keeps gs a b) (k : Keeps gs b c) : Keeps gs a c :=
  ⟨Nat.le_trans h.size k.size, fun g i hg hn => (k.cell g i (Nat.lt_of_lt_of_le hg h.size) hn).trans (h.cell g i hg hn), fun g i hg hn => (k.free g i (Nat.lt_of_lt_of_le hg h.size) hn).trans (h.free g i hg hn)⟩
theorem Keeps.since (gs : List Nat) {a b : World} (h : SinceOf a b) : Keeps gs a b := by
  obtain ⟨z, rfl⟩ := h
  exact ⟨z.size, fun g i hg _ => z.below.cell hg, fun g i hg _ => z.below.frozen hg⟩
theorem Keeps.set {gs : List Nat} (a : World) {g : Nat} (hg : g ∈ gs) (i : Nat) (u : Value) : Keeps gs a (a.setCell ⟨g, i, none⟩ u) :=
  ⟨by simp, fun b j _ hn => World.cell?_setCell_other _ _ _ _ (by intro e; injection e with e1; subst e1; exact hn hg), fun b j _ _ => by rw [World.frozen?_setCell]⟩
theorem IsRow.keeps {α : Type} {enc : α → List Value} {k : Nat} {w w' : World} {A : Option Addr} {c : Nat} {l : List α} {gs : List Nat} (h : IsRow enc k w A c l) (hk : Keeps gs w w') (hn : ∀ b, blockOf A = some b → b ∉ gs) : IsRow enc k w' A c l := by
  refine ⟨h.1, ?_⟩
  rcases h.2 with h2 | ⟨g, off, rfl, hr⟩
  · exact .inl h2
  · refine .inr ⟨g, off, rfl, ⟨fun i hi j u hu => ?_, hr.there.elim fun q => ⟨⟨Nat.lt_of_lt_of_le q.lt hk.size⟩⟩⟩⟩
    rw [hk.cell g _ (hr.there.elim fun q => q.lt) (hn g rfl)]
    exact hr.cells i hi j u hu
/-- The variables that the search shares. -/
structure BestW (w : World) (gj gf gl go gs gt : Nat) (s : ShopR) (A : Option Addr) (c : Nat) (L : List JobR) (best : BestR) : Prop where
  jobs : w.cell? ⟨gj, 0, none⟩ = some (.slice A L.length c)
  s0 : w.cell? ⟨gs, 0, none⟩ = some (.slice s.A s.cals.length s.c)
  s1 : w.cell? ⟨gs, 1, none⟩ = some (.slice s.B s.rows.length s.d)
  s2 : w.cell? ⟨gs, 2, none⟩ = some (.int .i64 s.most)
  self : w.cell? ⟨gt, 0, none⟩ = some (.func (.func 40) #[] #[.pointer (some ⟨gj, 0, none⟩), .pointer (some ⟨gf, 0, none⟩), .pointer (some ⟨gl, 0, none⟩), .pointer (some ⟨go, 0, none⟩), .pointer (some ⟨gs, 0, none⟩), .pointer (some ⟨gt, 0, none⟩)])
  found : w.cell? ⟨gf, 0, none⟩ = some (.bool best.isSome)
  rows : ∃ (C : Option Addr) (d : Nat) (B : Option Addr) (b : Nat), w.cell? ⟨go, 0, none⟩ = some (.slice C (orderB best).length d) ∧ w.cell? ⟨gl, 0, none⟩ = some (.slice B (slotsB best).length b) ∧ IsInts w C d (orderB best) ∧ IsSlots w B b (slotsB best) ∧ (∀ x, blockOf C = some x → x ∉ [gf, gl, go]) ∧ (∀ x, blockOf B = some x → x ∉ [gf, gl, go])
  f1 : w.frozen? ⟨gf, 0, none⟩ = false
  f2 : w.frozen? ⟨gl, 0, none⟩ = false
  f3 : w.frozen? ⟨go, 0, none⟩ = false
  lt : gj < w.heap.size ∧ gf < w.heap.size ∧ gl < w.heap.size ∧ go < w.heap.size ∧ gs < w.heap.size ∧ gt < w.heap.size
  apart : [gj, gf, gl, go, gs, gt].Nodup
section
variable {w w' : World} {gj gf gl go gs gt : Nat} {s : ShopR} {A : Option Addr} {c : Nat} {L : List JobR} {best : BestR}
theorem BestW.of (h : BestW w gj gf gl go gs gt s A c L best) (hs : SinceOf w w') : BestW w' gj gf gl go gs gt s A c L best := by
  obtain ⟨z, rfl⟩ := hs
  obtain ⟨l1, l2, l3, l4, l5, l6⟩ := h.lt
  have cc : ∀ g i, g < w.heap.size → z.wd.cell? ⟨g, i, none⟩ = w.cell? ⟨g, i, none⟩ := fun g i hg => z.below.cell hg
  have ff : ∀ g i, g < w.heap.size → z.wd.frozen? ⟨g, i, none⟩ = w.frozen? ⟨g, i, none⟩ := fun g i hg => z.below.frozen hg
  have hz := z.size
  obtain ⟨C, d, B, b, r1, r2, r3, r4, r5, r6⟩ := h.rows
  exact ⟨(cc _ _ l1).trans h.jobs, (cc _ _ l5).trans h.s0, (cc _ _ l5).trans h.s1, (cc _ _ l5).trans h.s2, (cc _ _ l6).trans h.self, (cc _ _ l2).trans h.found, ⟨C, d, B, b, (cc _ _ l4).trans r1, (cc _ _ l3).trans r2, r3.of ⟨z, rfl⟩, r4.of ⟨z, rfl⟩, r5, r6⟩, (ff _ _ l2).trans h.f1, (ff _ _ l3).trans h.f2, (ff _ _ l4).trans h.f3, by omega, h.apart⟩
theorem BestW.put (h : BestW w gj gf gl go gs gt s A c L best) {C B : Option Addr} {d b : Nat} {o : List Int} {sl : List SlotR} (hC : IsInts w C d o) (hB : IsSlots w B b sl) (nC : ∀ x, blockOf C = some x → x ∉ [gf, gl, go]) (nB : ∀ x, blockOf B = some x → x ∉ [gf, gl, go]) :
    BestW (((w.setCell ⟨go, 0, none⟩ (.slice C o.length d)).setCell ⟨gl, 0, none⟩ (.slice B sl.length b)).setCell ⟨gf, 0, none⟩ (.bool true)) gj gf gl go gs gt s A c L (some (o, sl)) := by
  have hap := h.apart
  simp only [List.nodup_cons, List.mem_cons, List.not_mem_nil, not_or, or_false] at hap
  obtain ⟨⟨a1, a2, a3, a4, a5⟩, ⟨a6, a7, a8, a9⟩, ⟨a10, a11, a12⟩, ⟨a13, a14⟩, a15, -⟩ := hap
  have ne : ∀ {x y i : Nat}, x ≠ y → (⟨x, 0, none⟩ : Addr) ≠ ⟨y, i, none⟩ := fun h e => h (by injection e)
  have K : Keeps [gf, gl, go] w (((w.setCell ⟨go, 0, none⟩ (.slice C o.length d)).setCell ⟨gl, 0, none⟩ (.slice B sl.length b)).setCell ⟨gf, 0, none⟩ (.bool true)) :=
    ((Keeps.set w (by simp) 0 _).trans (Keeps.set _ (by simp) 0 _)).trans (Keeps.set _ (by simp) 0 _)
  obtain ⟨l1, l2, l3, l4, l5, l6⟩ := h.lt
  obtain ⟨C0, d0, B0, b0, r1, r2, -, -, -, -⟩ := h.rows
  refine ⟨(K.cell _ _ l1 (by simp; omega)).trans h.jobs, (K.cell _ _ l5 (by simp; omega)).trans h.s0, (K.cell _ _ l5 (by simp; omega)).trans h.s1, (K.cell _ _ l5 (by simp; omega)).trans h.s2, (K.cell _ _ l6 (by simp; omega)).trans h.self, ?_, ⟨C, d, B, b, ?_, ?_, hC.keeps K nC, hB.keeps K nB, nC, nB⟩, ?_, ?_, ?_, ?_, h.apart⟩
  · exact World.cell?_setCell_same (u := .bool best.isSome) _ _ _ (by rw [World.cell?_setCell_other _ _ _ _ (ne (by omega)), World.cell?_setCell_other _ _ _ _ (ne (by omega))]; exact h.found)
  · rw [World.cell?_setCell_other _ _ _ _ (ne (by omega)), World.cell?_setCell_other _ _ _ _ (ne (by omega))]
    exact World.cell?_setCell_same _ _ _ r1
  · rw [World.cell?_setCell_other _ _ _ _ (ne (by omega))]
    exact World.cell?_setCell_same (u := .slice B0 (slotsB best).length b0) _ _ _ (by rw [World.cell?_setCell_other _ _ _ _ (ne (by omega))]; exact r2)
  · simpa using h.f1
  · simpa using h.f2
  · simpa using h.f3
  · simp; omega
end
/-- The search below a list of jobs, its slots, f jobs still to come. -/
def dfsB (s : ShopR) (L : List JobR) : Nat → List Int → List SlotR → BestR → BestR
  | 0, list, slots, best => bestStep L best (list, slots)
  | f + 1, list, slots, best => (List.range L.length).foldl (fun b (j : Nat) => if list.contains (j : Int) then b else dfsB s L f (list ++ [(j : Int)]) (placeV s L slots j) b) best
theorem bestOver_append (s : ShopR) (L : List JobR) (b : BestR) (x y : List (List Int)) : bestOver s L b (x ++ y) = bestOver s L (bestOver s L b x) y := by unfold bestOver; rw [List.foldl_append]
theorem dfsB_over (s : ShopR) (L : List JobR) : ∀ (f : Nat) (list : List Int) (best : BestR), dfsB s L f list (placeAll s L [] list) best = bestOver s L best (dfsI L.length f list)
  | 0, list, best => rfl
  | f + 1, list, best => by
    unfold dfsB dfsI
    generalize List.range L.length = r
    induction r generalizing best with
    | nil => rfl
    | cons j r ih =>
      rw [List.foldl_cons, List.flatMap_cons, bestOver_append, ih]
      congr 1
      by_cases hc : list.contains (j : Int) = true
      · rw [if_pos hc, if_pos hc]; rfl
      · rw [if_neg hc, if_neg hc, ← dfsB_over s L f (list ++ [(j : Int)]) best]
        congr 1
        unfold placeAll
        rw [List.foldl_append]
        rfl
end Go.Proofs.Ytdcncalcncomoaa
/- Layer 52: the search's recursion. -/
namespace Go.Proofs.Ytdcncalcncomoaa
open Go.RowKit Go.Sort
set_option linter.unusedVariables false
attribute [local go_sem ↓] Go.wp_at_zero Go.wp_at_succ

@[go_sem] theorem eql_ints_nil (w : World) (A : Option Addr) (n c n' c' : Nat) : (binOp .eql 51 (.slice A n c) (.slice none n' c')).run Try.prog w = .ok (.bool A.isNone) w :=
  Lib.run_eql_slice_nil w _ _ A n c n' c' Try.underlying51
theorem cloneN_any (A : Option Addr) (c : Nat) (l : List Int) (w : World) (hl : IsInts w A c l) (hn : l.length * 8 ≤ 140737488355328) :
    Calls Try.prog 42 #[.slice A l.length c] w fun e w' => ∃ A' c', e = .returned (.slice A' l.length c') ∧ Owns encN 1 w.heap.size 3 w' A' c' l ∧ SinceOf w w' := by
  obtain ⟨i0, hi, hz0, hz1, hz2⟩ := info_parts infoInt
  cases A with
  | none =>
    obtain rfl : c = 0 := hl.1 rfl
    have hl0 : l = [] := by
      rcases hl.2 with h | ⟨g, off, h, _⟩
      · exact h
      · cases h
    subst hl0
    go_enter Try.func42, Try.ntmps42
    go_wp2_with fail
    go_returns
    exact ⟨none, 0, rfl, Owns.nil _ _ _ _ _, SinceOf.refl _⟩
  | some ad =>
    go_enter Try.func42, Try.ntmps42
    go_wp2_with (at_builtin; refine wpList_append_row rfl (.tmp 5) (.tmp 6) 51 rfl encN_len (by omega) encN_one i0 _ 8 Try.underlying51 hi hz0 hz1 hz2 rfl (l := []) (A := some ⟨w.heap.size, 0, none⟩) (c := 0) (base := w.heap.size) rfl (World.ownsRow_lit w #[] 0 (Nat.le_refl _) (Nat.zero_le _) rfl) (m := l) rfl (hl.of (SinceOf.alloc (SinceOf.refl w) _)) (by unfold maxLen; simp; omega) (by simpa using hn) (by simp) ?_; intro A' c' w' hown hgrow _)
    go_returns
    exact ⟨A', c', rfl, hown, ((SinceOf.refl w).alloc _).grown hgrow (by intro k hk; simp [blockOf] at hk; omega)⟩
/-- What is known of the best so far: its slots are a valid schedule. -/
def OkB (s : ShopR) (L : List JobR) (best : BestR) : Prop := ∀ bx, best = some bx → GoodS s L bx.2 ∧ bx.2.length < 1073741824
theorem OkB.step {s : ShopR} {L : List JobR} {best : BestR} (h : OkB s L best) {p : List Int × List SlotR} (hp : GoodS s L p.2 ∧ p.2.length < 1073741824) : OkB s L (bestStep L best p) := by
  intro bx hb
  unfold bestStep at hb
  cases best with
  | none => injection hb with hb; subst hb; exact hp
  | some q =>
    simp only at hb
    split at hb
    · injection hb with hb; subst hb; exact hp
    · injection hb with hb; subst hb; exact h q rfl
set_option maxRecDepth 100000 in
set_option maxHeartbeats 16000000 in
theorem leaf_any (s : ShopR) (A : Option Addr) (c : Nat) (L : List JobR) (w0 : World) (hs : IsShop w0 s) (h : IsJobs w0 A c L) (hc : checkS s L = true) (hL : L.length ≤ 40) (gj gf gl go gs gt : Nat) (hbs : w0.heap.size ≤ gj ∧ w0.heap.size ≤ gf ∧ w0.heap.size ≤ gl ∧ w0.heap.size ≤ go ∧ w0.heap.size ≤ gs ∧ w0.heap.size ≤ gt)
    (list : List Int) (slots : List SlotR) (best : BestR) (C : Option Addr) (d : Nat) (B : Option Addr) (b : Nat) (w : World) (hw : SinceOf w0 w) (hlen : list.length = L.length) (hg : GoodS s L slots) (hsl : slots.length ≤ list.length) (hC : IsInts w C d list) (hB : IsSlots w B b slots) (hbw : BestW w gj gf gl go gs gt s A c L best) (hok : OkB s L best) :
    Calls Try.prog 40 #[.slice C list.length d, .slice B slots.length b, .pointer (some ⟨gj, 0, none⟩), .pointer (some ⟨gf, 0, none⟩), .pointer (some ⟨gl, 0, none⟩), .pointer (some ⟨go, 0, none⟩), .pointer (some ⟨gs, 0, none⟩), .pointer (some ⟨gt, 0, none⟩)] w fun e w' => e = .returned (.tuple #[]) ∧ BestW w' gj gf gl go gs gt s A c L (bestStep L best (list, slots)) ∧ Keeps [gf, gl, go] w w' ∧ SinceOf w0 w' := by
  have hj1 := hbw.jobs
  have hf1 := hbw.found
  obtain ⟨l1, l2, l3, l4, l5, l6⟩ := hbw.lt
  have o1 : Nonempty (Old w gj) := ⟨⟨l1⟩⟩
  have o2 : Nonempty (Old w gf) := ⟨⟨l2⟩⟩
  have o3 : Nonempty (Old w gl) := ⟨⟨l3⟩⟩
  have o4 : Nonempty (Old w go) := ⟨⟨l4⟩⟩
  have hap := hbw.apart
  simp only [List.nodup_cons, List.mem_cons, List.not_mem_nil, not_or, or_false] at hap
  obtain ⟨-, ⟨a6, a7, -, -⟩, ⟨a10, -, -⟩, -⟩ := hap
  have p1 : Nonempty (Apart gf go) := ⟨⟨a7⟩⟩
  have p2 : Nonempty (Apart gf gl) := ⟨⟨a6⟩⟩
  have p3 : Nonempty (Apart gl go) := ⟨⟨a10⟩⟩
  have p4 : Nonempty (Apart go gf) := ⟨⟨fun e => a7 e.symm⟩⟩
  have p5 : Nonempty (Apart gl gf) := ⟨⟨fun e => a6 e.symm⟩⟩
  have p6 : Nonempty (Apart go gl) := ⟨⟨fun e => a10 e.symm⟩⟩
  clear a6 a7 a10
  have fz1 := hbw.f1
  have fz2 := hbw.f2
  have fz3 := hbw.f3
  obtain ⟨C0, d0, B0, b0, r1, r2, r3, r4, r5, r6⟩ := hbw.rows
  have PS := fun W (hW : SinceOf w W) => price_any A c L B b slots W (h.of (hw.trans hW)) (by omega) (any_due hc) (hB.of hW) (by omega) (good_stop hg)
  have hsz := hw.size
  have H := Lib.hid (And.intro hC (And.intro hB (And.intro hbw (And.intro hw hok))))
  have CN := fun W (hW : SinceOf w W) => cloneN_any C d list W (hC.of hW) (by omega)
  have hput := fun (W : World) (hW : SinceOf w W) (C2 : Option Addr) (d2 : Nat) (B2 : Option Addr) (b2 : Nat) (hC2 : IsInts W C2 d2 list) (hB2 : IsSlots W B2 b2 slots) n1 n2 => BestW.put (hbw.of hW) hC2 hB2 n1 n2
  rw [hlen] at CN
  simp only [hlen] at hput
  have HP := Lib.hid hput
  have HCN := Lib.hid CN
  clear CN
  cases best with
  | none =>
    clear hC hB hbw hw hok PS hg hput
    go_enter Try.func40, Try.ntmps40
    go_wp2_with fail
    refine region_later (by kernel_rfl) (by kernel_rfl) ?_
    repeat (go_big_quiet_step (fail))
    refine wpQuiet_nil ?_
    rintro _ ⟨z1, rfl⟩
    go_wp2_with fail
    refine (HCN.out _ (by (repeat (first | (with_reducible exact SinceOf.refl _) | (with_reducible assumption) | (with_reducible refine SinceOf.alloc ?_ _) | (with_reducible refine SinceOf.drew ?_) | (with_reducible refine SinceOf.drewN ?_ _) | (with_reducible refine SinceOf.later ?_ _) | (with_reducible refine SinceOf.further ?_ _) | (with_reducible refine SinceOf.setCell ?_ (by first | exact Nat.le_refl _ | (simp; done) | omega | (simp; omega)) _))))).mono ?_
    rintro e _ ⟨C2, d2, rfl, hC2, ⟨z2, rfl⟩⟩
    go_wp2_with fail
    refine (cloneS_any B b slots _ (H.out.2.1.of (by (repeat (first | (with_reducible exact SinceOf.refl _) | (with_reducible assumption) | (with_reducible refine SinceOf.alloc ?_ _) | (with_reducible refine SinceOf.drew ?_) | (with_reducible refine SinceOf.drewN ?_ _) | (with_reducible refine SinceOf.later ?_ _) | (with_reducible refine SinceOf.further ?_ _) | (with_reducible refine SinceOf.setCell ?_ (by first | exact Nat.le_refl _ | (simp; done) | omega | (simp; omega)) _))))) (by omega)).mono ?_
    rintro e _ ⟨B2, b2, rfl, hB2, ⟨z3, rfl⟩⟩
    have HQ := Lib.hid (And.intro hC2 hB2)
    clear hC2 hB2
    go_wp2_with fail
    go_returns
    have hk2 : ∀ x, blockOf C2 = some x → x ∉ [gf, gl, go] := fun x hx => by
      have h1 := (HQ.out.1.below x hx).1
      have h2 := z1.size
      simp
      omega
    have hk3 : ∀ x, blockOf B2 = some x → x ∉ [gf, gl, go] := fun x hx => by
      have h1 := (HQ.out.2.below x hx).1
      have h2 := z1.size
      have h3 := z2.size
      simp
      omega
    refine ⟨rfl, ?_, ?_, ?_⟩
    · exact HP.out z3.wd (by (repeat (first | (with_reducible exact SinceOf.refl _) | (with_reducible assumption) | (with_reducible refine SinceOf.alloc ?_ _) | (with_reducible refine SinceOf.drew ?_) | (with_reducible refine SinceOf.drewN ?_ _) | (with_reducible refine SinceOf.later ?_ _) | (with_reducible refine SinceOf.further ?_ _) | (with_reducible refine SinceOf.setCell ?_ (by first | exact Nat.le_refl _ | (simp; done) | omega | (simp; omega)) _)))) C2 d2 B2 b2 ((HQ.out.1.isRow encN_len).of (by (repeat (first | (with_reducible exact SinceOf.refl _) | (with_reducible assumption) | (with_reducible refine SinceOf.alloc ?_ _) | (with_reducible refine SinceOf.drew ?_) | (with_reducible refine SinceOf.drewN ?_ _) | (with_reducible refine SinceOf.later ?_ _) | (with_reducible refine SinceOf.further ?_ _) | (with_reducible refine SinceOf.setCell ?_ (by first | exact Nat.le_refl _ | (simp; done) | omega | (simp; omega)) _))))) (HQ.out.2.isRow encS_len) hk2 hk3
    · exact (((Keeps.since _ (show SinceOf w z3.wd by (repeat (first | (with_reducible exact SinceOf.refl _) | (with_reducible assumption) | (with_reducible refine SinceOf.alloc ?_ _) | (with_reducible refine SinceOf.drew ?_) | (with_reducible refine SinceOf.drewN ?_ _) | (with_reducible refine SinceOf.later ?_ _) | (with_reducible refine SinceOf.further ?_ _) | (with_reducible refine SinceOf.setCell ?_ (by first | exact Nat.le_refl _ | (simp; done) | omega | (simp; omega)) _))))).trans (Keeps.set _ (by simp) 0 _)).trans (Keeps.set _ (by simp) 0 _)).trans (Keeps.set _ (by simp) 0 _)
    · have hz : SinceOf w0 z3.wd := H.out.2.2.2.1.trans (by (repeat (first | (with_reducible exact SinceOf.refl _) | (with_reducible assumption) | (with_reducible refine SinceOf.alloc ?_ _) | (with_reducible refine SinceOf.drew ?_) | (with_reducible refine SinceOf.drewN ?_ _) | (with_reducible refine SinceOf.later ?_ _) | (with_reducible refine SinceOf.further ?_ _) | (with_reducible refine SinceOf.setCell ?_ (by first | exact Nat.le_refl _ | (simp; done) | omega | (simp; omega)) _))))
      refine SinceOf.setCell (SinceOf.setCell (SinceOf.setCell hz ?_ _) ?_ _) ?_ _
      all_goals first | exact hbs.2.2.2.1 | exact hbs.2.2.1 | exact hbs.2.1
  | some bx =>
    have PB := fun W (hW : SinceOf w W) => price_any A c L B0 b0 bx.2 W (h.of (hw.trans hW)) (by omega) (any_due hc) (r4.of hW) (hok bx rfl).2 (good_stop (hok bx rfl).1)
    have hstep : bestStep L (some bx) (list, slots) = if costLt L slots bx.2 = true then some (list, slots) else some bx := rfl
    have hcl : costLt L slots bx.2 = lessC (priceV L slots).job (priceV L slots).mach (priceV L slots).start (priceV L slots).stop (priceV L bx.2).job (priceV L bx.2).mach (priceV L bx.2).start (priceV L bx.2).stop := rfl
    have LE := fun W => schLess_any (priceV L slots).job (priceV L slots).mach (priceV L slots).start (priceV L slots).stop (priceV L bx.2).job (priceV L bx.2).mach (priceV L bx.2).start (priceV L bx.2).stop W
    rw [← hcl] at LE
    rw [show slotsB (some bx) = bx.2 from rfl] at r2
    simp only [Option.isSome_some] at hf1
    generalize priceV L slots = p1 at *
    generalize priceV L bx.2 = p2 at *
    generalize costLt L slots bx.2 = q at *
    have HX := Lib.hid (And.intro hstep hbw)
    obtain ⟨p10, p11, p12, p13⟩ := p1
    obtain ⟨p20, p21, p22, p23⟩ := p2
    simp only at LE
    clear hC hB hbw hw hok hg hput hstep hcl r3 r4
    cases q
    · go_enter Try.func40, Try.ntmps40
      go_wp2_with fail
      go_region_held3 (fun w' => w'.cell? ⟨gj, 0, none⟩ = some (.slice A L.length c) ∧ w'.cell? ⟨gf, 0, none⟩ = some (.bool true) ∧ w'.cell? ⟨gl, 0, none⟩ = some (.slice B0 bx.2.length b0)) ((simp [go_sem, *]))
        (first
          | (go_at_call 26; (with_reducible refine (PS _ (by (repeat (first | (with_reducible exact SinceOf.refl _) | (with_reducible assumption) | (with_reducible refine SinceOf.alloc ?_ _) | (with_reducible refine SinceOf.drew ?_) | (with_reducible refine SinceOf.drewN ?_ _) | (with_reducible refine SinceOf.later ?_ _) | (with_reducible refine SinceOf.further ?_ _) | (with_reducible refine SinceOf.setCell ?_ (by first | exact Nat.le_refl _ | (simp; done) | omega | (simp; omega)) _))))).calls.mono ?_); rintro e _ ⟨rfl, z6, rfl⟩)
          | (go_at_call 26; (with_reducible refine (PB _ (by (repeat (first | (with_reducible exact SinceOf.refl _) | (with_reducible assumption) | (with_reducible refine SinceOf.alloc ?_ _) | (with_reducible refine SinceOf.drew ?_) | (with_reducible refine SinceOf.drewN ?_ _) | (with_reducible refine SinceOf.later ?_ _) | (with_reducible refine SinceOf.further ?_ _) | (with_reducible refine SinceOf.setCell ?_ (by first | exact Nat.le_refl _ | (simp; done) | omega | (simp; omega)) _))))).calls.mono ?_); rintro e _ ⟨rfl, z7, rfl⟩)
          | (go_at_call 41; refine (LE _).calls.mono ?_; rintro e _ ⟨rfl, z1, rfl⟩))
      all_goals
        go_wp2_with fail
        go_returns
        exact ⟨rfl, by rw [HX.out.1, if_neg (by simp)]; exact HX.out.2.of (by (repeat (first | (with_reducible exact SinceOf.refl _) | (with_reducible assumption) | (with_reducible refine SinceOf.alloc ?_ _) | (with_reducible refine SinceOf.drew ?_) | (with_reducible refine SinceOf.drewN ?_ _) | (with_reducible refine SinceOf.later ?_ _) | (with_reducible refine SinceOf.further ?_ _) | (with_reducible refine SinceOf.setCell ?_ (by first | exact Nat.le_refl _ | (simp; done) | omega | (simp; omega)) _)))), Keeps.since _ (by (repeat (first | (with_reducible exact SinceOf.refl _) | (with_reducible assumption) | (with_reducible refine SinceOf.alloc ?_ _) | (with_reducible refine SinceOf.drew ?_) | (with_reducible refine SinceOf.drewN ?_ _) | (with_reducible refine SinceOf.later ?_ _) | (with_reducible refine SinceOf.further ?_ _) | (with_reducible refine SinceOf.setCell ?_ (by first | exact Nat.le_refl _ | (simp; done) | omega | (simp; omega)) _)))), H.out.2.2.2.1.trans (by (repeat (first | (with_reducible exact SinceOf.refl _) | (with_reducible assumption) | (with_reducible refine SinceOf.alloc ?_ _) | (with_reducible refine SinceOf.drew ?_) | (with_reducible refine SinceOf.drewN ?_ _) | (with_reducible refine SinceOf.later ?_ _) | (with_reducible refine SinceOf.further ?_ _) | (with_reducible refine SinceOf.setCell ?_ (by first | exact Nat.le_refl _ | (simp; done) | omega | (simp; omega)) _))))⟩
    · go_enter Try.func40, Try.ntmps40
      go_wp2_with fail
      go_region_held3 (fun w' => w'.cell? ⟨gj, 0, none⟩ = some (.slice A L.length c) ∧ w'.cell? ⟨gf, 0, none⟩ = some (.bool true) ∧ w'.cell? ⟨gl, 0, none⟩ = some (.slice B0 bx.2.length b0)) ((simp [go_sem, *]))
        (first
          | (go_at_call 26; (with_reducible refine (PS _ (by (repeat (first | (with_reducible exact SinceOf.refl _) | (with_reducible assumption) | (with_reducible refine SinceOf.alloc ?_ _) | (with_reducible refine SinceOf.drew ?_) | (with_reducible refine SinceOf.drewN ?_ _) | (with_reducible refine SinceOf.later ?_ _) | (with_reducible refine SinceOf.further ?_ _) | (with_reducible refine SinceOf.setCell ?_ (by first | exact Nat.le_refl _ | (simp; done) | omega | (simp; omega)) _))))).calls.mono ?_); rintro e _ ⟨rfl, z6, rfl⟩)
          | (go_at_call 26; (with_reducible refine (PB _ (by (repeat (first | (with_reducible exact SinceOf.refl _) | (with_reducible assumption) | (with_reducible refine SinceOf.alloc ?_ _) | (with_reducible refine SinceOf.drew ?_) | (with_reducible refine SinceOf.drewN ?_ _) | (with_reducible refine SinceOf.later ?_ _) | (with_reducible refine SinceOf.further ?_ _) | (with_reducible refine SinceOf.setCell ?_ (by first | exact Nat.le_refl _ | (simp; done) | omega | (simp; omega)) _))))).calls.mono ?_); rintro e _ ⟨rfl, z7, rfl⟩)
          | (go_at_call 41; refine (LE _).calls.mono ?_; rintro e _ ⟨rfl, z1, rfl⟩))
      all_goals
        go_wp2_with fail
        refine (HCN.out _ (by (repeat (first | (with_reducible exact SinceOf.refl _) | (with_reducible assumption) | (with_reducible refine SinceOf.alloc ?_ _) | (with_reducible refine SinceOf.drew ?_) | (with_reducible refine SinceOf.drewN ?_ _) | (with_reducible refine SinceOf.later ?_ _) | (with_reducible refine SinceOf.further ?_ _) | (with_reducible refine SinceOf.setCell ?_ (by first | exact Nat.le_refl _ | (simp; done) | omega | (simp; omega)) _))))).mono ?_
        rintro e _ ⟨C2, d2, rfl, hC2, ⟨z2, rfl⟩⟩
        go_wp2_with fail
        refine (cloneS_any B b slots _ (H.out.2.1.of (by (repeat (first | (with_reducible exact SinceOf.refl _) | (with_reducible assumption) | (with_reducible refine SinceOf.alloc ?_ _) | (with_reducible refine SinceOf.drew ?_) | (with_reducible refine SinceOf.drewN ?_ _) | (with_reducible refine SinceOf.later ?_ _) | (with_reducible refine SinceOf.further ?_ _) | (with_reducible refine SinceOf.setCell ?_ (by first | exact Nat.le_refl _ | (simp; done) | omega | (simp; omega)) _))))) (by omega)).mono ?_
        rintro e _ ⟨B2, b2, rfl, hB2, ⟨z3, rfl⟩⟩
        have HQ := Lib.hid (And.intro hC2 hB2)
        clear hC2 hB2
        go_wp2_with fail
        go_returns
        have hk2 : ∀ x, blockOf C2 = some x → x ∉ [gf, gl, go] := fun x hx => by
          have h1 := (HQ.out.1.below x hx).1
          have h2 := z1.size
          have h21 := z6.size
          have h22 := z7.size
          (try simp only [World.size_drew] at h2 h21 h22)
          (try simp at h21)
          (try simp at h22)
          (try simp at h2)
          simp
          omega
        have hk3 : ∀ x, blockOf B2 = some x → x ∉ [gf, gl, go] := fun x hx => by
          have h1 := (HQ.out.2.below x hx).1
          have h2 := z1.size
          have h21 := z6.size
          have h22 := z7.size
          (try simp only [World.size_drew] at h2 h21 h22)
          (try simp at h21)
          (try simp at h22)
          (try simp at h2)
          have h3 := z2.size
          simp
          omega
        refine ⟨rfl, by rw [HX.out.1, if_pos (by trivial)]; exact HP.out z3.wd (by (repeat (first | (with_reducible exact SinceOf.refl _) | (with_reducible assumption) | (with_reducible refine SinceOf.alloc ?_ _) | (with_reducible refine SinceOf.drew ?_) | (with_reducible refine SinceOf.drewN ?_ _) | (with_reducible refine SinceOf.later ?_ _) | (with_reducible refine SinceOf.further ?_ _) | (with_reducible refine SinceOf.setCell ?_ (by first | exact Nat.le_refl _ | (simp; done) | omega | (simp; omega)) _)))) C2 d2 B2 b2 ((HQ.out.1.isRow encN_len).of (by (repeat (first | (with_reducible exact SinceOf.refl _) | (with_reducible assumption) | (with_reducible refine SinceOf.alloc ?_ _) | (with_reducible refine SinceOf.drew ?_) | (with_reducible refine SinceOf.drewN ?_ _) | (with_reducible refine SinceOf.later ?_ _) | (with_reducible refine SinceOf.further ?_ _) | (with_reducible refine SinceOf.setCell ?_ (by first | exact Nat.le_refl _ | (simp; done) | omega | (simp; omega)) _))))) (HQ.out.2.isRow encS_len) hk2 hk3, ?_, ?_⟩
        · exact (((Keeps.since _ (show SinceOf w z3.wd by (repeat (first | (with_reducible exact SinceOf.refl _) | (with_reducible assumption) | (with_reducible refine SinceOf.alloc ?_ _) | (with_reducible refine SinceOf.drew ?_) | (with_reducible refine SinceOf.drewN ?_ _) | (with_reducible refine SinceOf.later ?_ _) | (with_reducible refine SinceOf.further ?_ _) | (with_reducible refine SinceOf.setCell ?_ (by first | exact Nat.le_refl _ | (simp; done) | omega | (simp; omega)) _))))).trans (Keeps.set _ (by simp) 0 _)).trans (Keeps.set _ (by simp) 0 _)).trans (Keeps.set _ (by simp) 0 _)
        · have hz : SinceOf w0 z3.wd := H.out.2.2.2.1.trans (by (repeat (first | (with_reducible exact SinceOf.refl _) | (with_reducible assumption) | (with_reducible refine SinceOf.alloc ?_ _) | (with_reducible refine SinceOf.drew ?_) | (with_reducible refine SinceOf.drewN ?_ _) | (with_reducible refine SinceOf.later ?_ _) | (with_reducible refine SinceOf.further ?_ _) | (with_reducible refine SinceOf.setCell ?_ (by first | exact Nat.le_refl _ | (simp; done) | omega | (simp; omega)) _))))
          refine SinceOf.setCell (SinceOf.setCell (SinceOf.setCell hz ?_ _) ?_ _) ?_ _
          all_goals first | exact hbs.2.2.2.1 | exact hbs.2.2.1 | exact hbs.2.1
end Go.Proofs.Ytdcncalcncomoaa
/- Layer 52: the search, by recursion. -/
namespace Go.Proofs.Ytdcncalcncomoaa
open Go.RowKit Go.Sort
set_option linter.unusedVariables false
attribute [local go_sem ↓] Go.wp_at_zero Go.wp_at_succ

/-- One job of the loop. -/
def turnB (s : ShopR) (L : List JobR) (f : Nat) (list : List Int) (slots : List SlotR) (b : BestR) (j : Nat) : BestR := if list.contains (j : Int) then b else dfsB s L f (list ++ [(j : Int)]) (placeV s L slots j) b
def turnsB (s : ShopR) (L : List JobR) (f : Nat) (list : List Int) (slots : List SlotR) (best : BestR) (k : Nat) : BestR := (List.range k).foldl (turnB s L f list slots) best
theorem turnsB_succ (s : ShopR) (L : List JobR) (f : Nat) (list : List Int) (slots : List SlotR) (best : BestR) (k : Nat) : turnsB s L f list slots best (k + 1) = turnB s L f list slots (turnsB s L f list slots best k) k := by
  unfold turnsB; rw [List.range_succ, List.foldl_append]; rfl
theorem dfsB_turns (s : ShopR) (L : List JobR) (f : Nat) (list : List Int) (slots : List SlotR) (best : BestR) : dfsB s L (f + 1) list slots best = turnsB s L f list slots best L.length := rfl
theorem placeV_good {s : ShopR} {L : List JobR} (hc : checkS s L = true) {l : List SlotR} (h : GoodS s L l) {j : Nat} (hj : j < L.length) : GoodS s L (placeV s L l j) := by
  have := place_good hc [(j : Int)] l h (by simp; omega)
  exact this
set_option maxRecDepth 100000 in
set_option maxHeartbeats 16000000 in
theorem bestSearch_any (s : ShopR) (A : Option Addr) (c : Nat) (L : List JobR) (w0 : World) (hs : IsShop w0 s) (h : IsJobs w0 A c L) (hc : checkS s L = true) (hL : L.length ≤ 40) (gj gf gl go gs gt : Nat) (hbs : w0.heap.size ≤ gj ∧ w0.heap.size ≤ gf ∧ w0.heap.size ≤ gl ∧ w0.heap.size ≤ go ∧ w0.heap.size ≤ gs ∧ w0.heap.size ≤ gt) :
    ∀ (f : Nat) (list : List Int) (slots : List SlotR) (best : BestR) (C : Option Addr) (d : Nat) (B : Option Addr) (b : Nat) (w : World), SinceOf w0 w → list.length + f = L.length → GoodS s L slots → slots.length ≤ list.length → IsInts w C d list → (∀ x, blockOf C = some x → x ∉ [gf, gl, go]) → IsSlots w B b slots → (∀ x, blockOf B = some x → x ∉ [gf, gl, go]) → BestW w gj gf gl go gs gt s A c L best → OkB s L best →
    Calls Try.prog 40 #[.slice C list.length d, .slice B slots.length b, .pointer (some ⟨gj, 0, none⟩), .pointer (some ⟨gf, 0, none⟩), .pointer (some ⟨gl, 0, none⟩), .pointer (some ⟨go, 0, none⟩), .pointer (some ⟨gs, 0, none⟩), .pointer (some ⟨gt, 0, none⟩)] w fun e w' => e = .returned (.tuple #[]) ∧ BestW w' gj gf gl go gs gt s A c L (dfsB s L f list slots best) ∧ OkB s L (dfsB s L f list slots best) ∧ Keeps [gf, gl, go] w w' ∧ SinceOf w0 w'
  | 0, list, slots, best, C, d, B, b, w, hw, hlen, hg, hsl, hC, nC, hB, nB, hbw, hok => by
    refine (leaf_any s A c L w0 hs h hc hL gj gf gl go gs gt hbs list slots best C d B b w hw (by omega) hg hsl hC hB hbw hok).mono ?_
    rintro e w' ⟨he, h1, h2, h3⟩
    exact ⟨he, h1, hok.step ⟨hg, by show slots.length < 1073741824; omega⟩, h2, h3⟩
  | f + 1, list, slots, best, C, d, B, b, w, hw, hlen, hg, hsl, hC, nC, hB, nB, hbw, hok => by
    have IH := bestSearch_any s A c L w0 hs h hc hL gj gf gl go gs gt hbs f
    rw [dfsB_turns]
    have hne : ((list.length : Int) == (L.length : Int)) = false := by simp; omega
    have hj1 := hbw.jobs
    obtain ⟨l1, l2, l3, l4, l5, l6⟩ := hbw.lt
    have o1 : Nonempty (Old w gj) := ⟨⟨l1⟩⟩
    have hll : list.length < L.length := by omega
    have H := Lib.hid (And.intro hC (And.intro hB (And.intro hbw (And.intro hw (And.intro hok (And.intro nC (And.intro nB (And.intro hg (And.intro hlen IH)))))))))
    clear hC hB hbw hw hok nC nB hg hlen IH
    go_enter Try.func40, Try.ntmps40
    go_wp2_with fail
    go_loopg [36] L.length (fun gas s36 wr => ∃ k : Nat, k ≤ L.length ∧ L.length - k ≤ gas ∧ s36 = .int .i64 k ∧ BestW wr gj gf gl go gs gt s A c L (turnsB s L f list slots best k) ∧ OkB s L (turnsB s L f list slots best k) ∧ Keeps [gf, gl, go] w wr ∧ SinceOf w0 wr)
    case atStart => exact ⟨0, by omega, by omega, rfl, H.out.2.2.1, H.out.2.2.2.2.1, Keeps.refl _ _, H.out.2.2.2.1⟩
    case round =>
      obtain ⟨k, hk, hgas, rfl, hbk, hokk, hkk, hwk⟩ := hrel
      by_cases hlt : k < L.length
      · have hts := turnsB_succ s L f list slots best k
        generalize turnsB s L f list slots best k = bk at *
        unfold turnB at hts
        have hCk := H.out.1.keeps hkk H.out.2.2.2.2.2.1
        have hBk := H.out.2.1.keeps hkk H.out.2.2.2.2.2.2.1
        have CT : ∀ W, SinceOf wr W → Gives Try.prog 44 #[.slice C list.length d, .int .i64 k] W (.bool (list.contains (k : Int))) := fun W hW => by
          have := containsInt_any C d list k W (hCk.of hW) (by omega)
          rw [← List.contains_eq_any_beq] at this
          exact this
        cases hq : list.contains (k : Int)
        · rw [hq, if_neg (by simp)] at hts
          rw [hq] at CT
          obtain ⟨m1, m2, m3, m4, m5, m6⟩ := hbk.lt
          have p1 : Nonempty (Old wr gj) := ⟨⟨m1⟩⟩
          have p2 : Nonempty (Old wr gs) := ⟨⟨m5⟩⟩
          have p3 : Nonempty (Old wr gt) := ⟨⟨m6⟩⟩
          have hj2 := hbk.jobs
          have q0 := hbk.s0
          have q1 := hbk.s1
          have q2 := hbk.s2
          have slf := hbk.self
          have hkd : (k : Int) < L.length := by omega
          have hnl : ¬ (k : Int) < 0 := by omega
          have DI := fun W (hW : SinceOf wr W) => dispatch_any s A c L B b slots k W (hs.of (hwk.trans hW)) (h.of (hwk.trans hW)) (check_good hc) (any_orders hc) (check_machs hc) (hBk.of hW) (by omega) (good_named H.out.2.2.2.2.2.2.2.1) hlt
          have hpg := placeV_good hc H.out.2.2.2.2.2.2.2.1 hlt
          have hpv : placeV s L slots k = match dispatchV s L slots k with | some x => slots ++ [x] | none => slots := rfl
          generalize placeV s L slots k = pl at *
          generalize dispatchV s L slots k = dv at *
          obtain ⟨i0, ni, nz0, nz1, nz2⟩ := info_parts infoInt
          have hgs9 : gf < wr.heap.size ∧ gl < wr.heap.size ∧ go < wr.heap.size := ⟨m2, m3, m4⟩
          have HK := Lib.hid (And.intro hbk (And.intro hokk (And.intro hkk (And.intro hwk (And.intro hts (And.intro hCk (And.intro hBk (And.intro hpg hgs9))))))))
          clear hbk hokk hkk hwk hts hCk hBk hq hpg hgs9 m1 m2 m3 m4 m5 m6
          have CN := fun W (hW : SinceOf wr W) => cloneN_any C d list W (HK.out.2.2.2.2.2.1.of hW) (by omega)
          have IHk : ∀ (C3 : Option Addr) (d3 : Nat) (B3 : Option Addr) (b3 : Nat) (W : World), SinceOf wr W → IsInts W C3 d3 (list ++ [(k : Int)]) → (∀ x, blockOf C3 = some x → x ∉ [gf, gl, go]) → IsSlots W B3 b3 pl → (∀ x, blockOf B3 = some x → x ∉ [gf, gl, go]) → pl.length ≤ list.length + 1 →
              Calls Try.prog 40 #[.slice C3 (list.length + 1) d3, .slice B3 pl.length b3, .pointer (some ⟨gj, 0, none⟩), .pointer (some ⟨gf, 0, none⟩), .pointer (some ⟨gl, 0, none⟩), .pointer (some ⟨go, 0, none⟩), .pointer (some ⟨gs, 0, none⟩), .pointer (some ⟨gt, 0, none⟩)] W fun e w' => e = .returned (.tuple #[]) ∧ BestW w' gj gf gl go gs gt s A c L (turnsB s L f list slots best (k + 1)) ∧ OkB s L (turnsB s L f list slots best (k + 1)) ∧ Keeps [gf, gl, go] W w' ∧ SinceOf w0 w' := by
            intro C3 d3 B3 b3 W hW h1 h2 h3 h4 h5
            have := H.out.2.2.2.2.2.2.2.2.2 (list ++ [(k : Int)]) pl bk C3 d3 B3 b3 W (HK.out.2.2.2.1.trans hW) (by have := H.out.2.2.2.2.2.2.2.2.1; simp; omega) HK.out.2.2.2.2.2.2.2.1 (by simpa using h5) h1 h2 h3 h4 (HK.out.1.of hW) HK.out.2.1
            rw [← HK.out.2.2.2.2.1, List.length_append, List.length_singleton] at this
            exact this
          have HIH := Lib.hid IHk
          clear IHk
          have HNB := Lib.hid (show ∀ x, wr.heap.size ≤ x → x ∉ [gf, gl, go] from fun x hx => by have h2 := HK.out.2.2.2.2.2.2.2.2; simp; omega)
          cases dv with
          | none =>
            simp only at hpv
            subst hpv
            unfold slotOpt at DI
            go_wp2_with fail
            refine (CT _ (by (repeat (first | (with_reducible exact SinceOf.refl _) | (with_reducible assumption) | (with_reducible refine SinceOf.alloc ?_ _) | (with_reducible refine SinceOf.drew ?_) | (with_reducible refine SinceOf.drewN ?_ _) | (with_reducible refine SinceOf.later ?_ _) | (with_reducible refine SinceOf.further ?_ _) | (with_reducible refine SinceOf.setCell ?_ (by first | exact Nat.le_refl _ | (simp; done) | omega | (simp; omega)) _))))).calls.mono ?_
            rintro e _ ⟨rfl, z1, rfl⟩
            go_wp2_with fail
            (with_reducible refine (DI _ (by (repeat (first | (with_reducible exact SinceOf.refl _) | (with_reducible assumption) | (with_reducible refine SinceOf.alloc ?_ _) | (with_reducible refine SinceOf.drew ?_) | (with_reducible refine SinceOf.drewN ?_ _) | (with_reducible refine SinceOf.later ?_ _) | (with_reducible refine SinceOf.further ?_ _) | (with_reducible refine SinceOf.setCell ?_ (by first | exact Nat.le_refl _ | (simp; done) | omega | (simp; omega)) _))))).calls.mono ?_)
            rintro e _ ⟨rfl, z2, rfl⟩
            go_wp2_with fail
            have s1 := z1.size
            have s2 := z2.size
            go_region_held3 (fun w' => w'.cell? ⟨gt, 0, none⟩ = some (.func (.func 40) #[] #[.pointer (some ⟨gj, 0, none⟩), .pointer (some ⟨gf, 0, none⟩), .pointer (some ⟨gl, 0, none⟩), .pointer (some ⟨go, 0, none⟩), .pointer (some ⟨gs, 0, none⟩), .pointer (some ⟨gt, 0, none⟩)])) ((simp [go_sem, *]))
              (first
                | (go_at_call 42; refine (CN _ (by (repeat (first | (with_reducible exact SinceOf.refl _) | (with_reducible assumption) | (with_reducible refine SinceOf.alloc ?_ _) | (with_reducible refine SinceOf.drew ?_) | (with_reducible refine SinceOf.drewN ?_ _) | (with_reducible refine SinceOf.later ?_ _) | (with_reducible refine SinceOf.further ?_ _) | (with_reducible refine SinceOf.setCell ?_ (by first | exact Nat.le_refl _ | (simp; done) | omega | (simp; omega)) _))))).mono ?_; rintro e _ ⟨C2, d2, rfl, hC2, ⟨z4, rfl⟩⟩
                   have s4 := z4.size
                   (try simp at s4)
                   have hC3 : Owns encN 1 wr.heap.size 3 z4.wd C2 d2 list := hC2.base_le (by first | omega | (simp; omega)))
                | (refine step_append_row rfl (.tmp 59) (.tmp 61) 51 rfl encN_len (by omega) encN_one i0 _ 8 Try.underlying51 ni nz0 nz1 nz2 rfl (l := list) (A := C2) (c := d2) (base := wr.heap.size) ?hs ?own (m := [(k : Int)]) rfl ?hm ?h63 ?hby ?hbase ?_
                   case hs => rfl
                   case own => first | exact hC3 | exact hC3.alloc _
                   case hm => first
                     | exact rowN_at _ _ _ _ rfl
                     | exact rowN_at _ _ _ _ (by simp)
                     | exact (rowN_at _ _ _ _ rfl).of (by (repeat (first | (with_reducible exact SinceOf.refl _) | (with_reducible assumption) | (with_reducible refine SinceOf.alloc ?_ _) | (with_reducible refine SinceOf.drew ?_) | (with_reducible refine SinceOf.drewN ?_ _) | (with_reducible refine SinceOf.later ?_ _) | (with_reducible refine SinceOf.further ?_ _) | (with_reducible refine SinceOf.setCell ?_ (by first | exact Nat.le_refl _ | (simp; done) | omega | (simp; omega)) _))))
                     | (have q := rowN_at (z2.wd.alloc (.cells #[.int .i64 0, .int .i64 0, .int .i64 0, .int .i64 0] 34)) _ (k : Int) 3 rfl
                        rw [show (z2.wd.alloc (.cells #[.int .i64 0, .int .i64 0, .int .i64 0, .int .i64 0] 34)).heap.size = z2.wd.heap.size + 1 from by simp] at q
                        exact q.of (by (repeat (first | (with_reducible exact SinceOf.refl _) | (with_reducible assumption) | (with_reducible refine SinceOf.alloc ?_ _) | (with_reducible refine SinceOf.drew ?_) | (with_reducible refine SinceOf.drewN ?_ _) | (with_reducible refine SinceOf.later ?_ _) | (with_reducible refine SinceOf.further ?_ _) | (with_reducible refine SinceOf.setCell ?_ (by first | exact Nat.le_refl _ | (simp; done) | omega | (simp; omega)) _)))))
                     | (have q := rowN_at (z2.wd.alloc (.cells #[.int .i64 0, .int .i64 0, .int .i64 0, .int .i64 0] 34)) _ (k : Int) 3 rfl
                        exact q.of (by (repeat (first | (with_reducible exact SinceOf.refl _) | (with_reducible assumption) | (with_reducible refine SinceOf.alloc ?_ _) | (with_reducible refine SinceOf.drew ?_) | (with_reducible refine SinceOf.drewN ?_ _) | (with_reducible refine SinceOf.later ?_ _) | (with_reducible refine SinceOf.further ?_ _) | (with_reducible refine SinceOf.setCell ?_ (by first | exact Nat.le_refl _ | (simp; done) | omega | (simp; omega)) _)))))
                   case h63 => unfold maxLen; simp; omega
                   case hby => simp; omega
                   case hbase => first | omega | (simp; omega)
                   intro C4 d4 w4 hown4 hgr4 hb4
                   have hs4 : SinceOf wr w4 := SinceOf.grown (by (repeat (first | (with_reducible exact SinceOf.refl _) | (with_reducible assumption) | (with_reducible refine SinceOf.alloc ?_ _) | (with_reducible refine SinceOf.drew ?_) | (with_reducible refine SinceOf.drewN ?_ _) | (with_reducible refine SinceOf.later ?_ _) | (with_reducible refine SinceOf.further ?_ _) | (with_reducible refine SinceOf.setCell ?_ (by first | exact Nat.le_refl _ | (simp; done) | omega | (simp; omega)) _)))) hgr4 (fun q hq => (hC3.below q hq).1)
                   have hsf := cell_since hs4 slf
                   have RC := HIH.out C4 d4 B b w4 hs4 (hown4.isRow encN_len) (fun x hx => by have h1 := (hown4.below x hx).1; have h2 := HK.out.2.2.2.2.2.2.2.2; simp; omega) (HK.out.2.2.2.2.2.2.1.of hs4) H.out.2.2.2.2.2.2.1 (by omega))
                | (go_at_call 40; refine RC.mono ?_; rintro e w5 ⟨rfl, r1, r2, r3, r4⟩; have hsg := r1.self))
            all_goals
              have HR := Lib.hid (And.intro r1 (And.intro r2 (And.intro r3 (And.intro r4 hs4))))
              clear r1 r2 r3 r4 hs4 hsg hsf RC
              go_wp2_with fail
              go_roundg (L.length - (k + 1))
              case measure => omega
              case rel => exact ⟨k + 1, hlt, Nat.le_refl _, by go_num, HR.out.1, HR.out.2.1, (HK.out.2.2.1.trans (Keeps.since _ HR.out.2.2.2.2)).trans HR.out.2.2.1, HR.out.2.2.2.1⟩
          | some x =>
            obtain ⟨x0, xm, x2, x3⟩ := x
            simp only at hpv
            subst hpv
            unfold slotOpt at DI
            have CS := fun W (hW : SinceOf wr W) => cloneS_any B b slots W (HK.out.2.2.2.2.2.2.1.of hW) (by omega)
            obtain ⟨ti, ti1, tz0, tz1, tz2⟩ := info_parts infoSlot2
            go_wp2_with fail
            refine (CT _ (by (repeat (first | (with_reducible exact SinceOf.refl _) | (with_reducible assumption) | (with_reducible refine SinceOf.alloc ?_ _) | (with_reducible refine SinceOf.drew ?_) | (with_reducible refine SinceOf.drewN ?_ _) | (with_reducible refine SinceOf.later ?_ _) | (with_reducible refine SinceOf.further ?_ _) | (with_reducible refine SinceOf.setCell ?_ (by first | exact Nat.le_refl _ | (simp; done) | omega | (simp; omega)) _))))).calls.mono ?_
            rintro e _ ⟨rfl, z1, rfl⟩
            go_wp2_with fail
            (with_reducible refine (DI _ (by (repeat (first | (with_reducible exact SinceOf.refl _) | (with_reducible assumption) | (with_reducible refine SinceOf.alloc ?_ _) | (with_reducible refine SinceOf.drew ?_) | (with_reducible refine SinceOf.drewN ?_ _) | (with_reducible refine SinceOf.later ?_ _) | (with_reducible refine SinceOf.further ?_ _) | (with_reducible refine SinceOf.setCell ?_ (by first | exact Nat.le_refl _ | (simp; done) | omega | (simp; omega)) _))))).calls.mono ?_)
            rintro e _ ⟨rfl, z2, rfl⟩
            go_upto_region 10 with fail
            have s1 := z1.size
            have s2 := z2.size
            go_cut [11] (fun s11 wx => ∃ (B3 : Option Addr) (b3 : Nat), s11 = .slice B3 (slots.length + 1) b3 ∧ Owns encS 4 wr.heap.size 34 wx B3 b3 (slots ++ [⟨x0, xm, x2, x3⟩]) ∧ SinceOf wr wx)
            case first =>
              go_region_held3 (fun w' => w'.cell? ⟨z2.wd.heap.size, 0, none⟩ = some (.int .i64 x0) ∧ w'.cell? ⟨z2.wd.heap.size, 1, none⟩ = some (.int .i64 xm) ∧ w'.cell? ⟨z2.wd.heap.size, 2, none⟩ = some (.int .i64 x2) ∧ w'.cell? ⟨z2.wd.heap.size, 3, none⟩ = some (.int .i64 x3)) ((simp [go_sem, *]))
                (first
                  | (go_at_call 43; refine (CS _ (by (repeat (first | (with_reducible exact SinceOf.refl _) | (with_reducible assumption) | (with_reducible refine SinceOf.alloc ?_ _) | (with_reducible refine SinceOf.drew ?_) | (with_reducible refine SinceOf.drewN ?_ _) | (with_reducible refine SinceOf.later ?_ _) | (with_reducible refine SinceOf.further ?_ _) | (with_reducible refine SinceOf.setCell ?_ (by first | exact Nat.le_refl _ | (simp; done) | omega | (simp; omega)) _))))).mono ?_; rintro e _ ⟨C2, d2, rfl, hC2, ⟨z4, rfl⟩⟩
                     have s4 := z4.size
                     (try simp at s4)
                     have hC3 : Owns encS 4 wr.heap.size 34 z4.wd C2 d2 slots := hC2.base_le (by first | omega | (simp; omega)))
                  | (refine step_append_row rfl (.tmp 53) (.tmp 55) 44 rfl encS_len (by omega) encS_one ti _ 32 Try.underlying44 ti1 tz0 tz1 tz2 rfl (l := slots) (A := C2) (c := d2) (base := wr.heap.size) ?hs ?own (m := [⟨x0, xm, x2, x3⟩]) rfl ?hm ?h63 ?hby ?hbase ?_
                     case hs => rfl
                     case own => first | exact hC3 | exact hC3.alloc _
                     case hm => first
                       | exact rowS_at _ _ ⟨x0, xm, x2, x3⟩ _ rfl
                       | exact rowS_at _ _ ⟨x0, xm, x2, x3⟩ _ (by simp)
                       | (have q := rowS_at (z2.wd.alloc (.cells #[.int .i64 x0, .int .i64 xm, .int .i64 x2, .int .i64 x3] 34)) _ ⟨x0, xm, x2, x3⟩ 34 rfl
                          rw [show (z2.wd.alloc (.cells #[.int .i64 x0, .int .i64 xm, .int .i64 x2, .int .i64 x3] 34)).heap.size = z2.wd.heap.size + 1 from by simp] at q
                          exact q.of (by (repeat (first | (with_reducible exact SinceOf.refl _) | (with_reducible assumption) | (with_reducible refine SinceOf.alloc ?_ _) | (with_reducible refine SinceOf.drew ?_) | (with_reducible refine SinceOf.drewN ?_ _) | (with_reducible refine SinceOf.later ?_ _) | (with_reducible refine SinceOf.further ?_ _) | (with_reducible refine SinceOf.setCell ?_ (by first | exact Nat.le_refl _ | (simp; done) | omega | (simp; omega)) _)))))
                     case h63 => unfold maxLen; simp; omega
                     case hby => simp; omega
                     case hbase => first | omega | (simp; omega)
                     intro C4 d4 w4 hown4 hgr4 hb4
                     have hs4 : SinceOf wr w4 := SinceOf.grown (by (repeat (first | (with_reducible exact SinceOf.refl _) | (with_reducible assumption) | (with_reducible refine SinceOf.alloc ?_ _) | (with_reducible refine SinceOf.drew ?_) | (with_reducible refine SinceOf.drewN ?_ _) | (with_reducible refine SinceOf.later ?_ _) | (with_reducible refine SinceOf.further ?_ _) | (with_reducible refine SinceOf.setCell ?_ (by first | exact Nat.le_refl _ | (simp; done) | omega | (simp; omega)) _)))) hgr4 (fun q hq => (hC3.below q hq).1)
                     have hs5 : SinceOf (z2.wd.alloc (.cells #[.int .i64 x0, .int .i64 xm, .int .i64 x2, .int .i64 x3] 34)) w4 := SinceOf.grown (by (repeat (first | (with_reducible exact SinceOf.refl _) | (with_reducible assumption) | (with_reducible refine SinceOf.alloc ?_ _) | (with_reducible refine SinceOf.drew ?_) | (with_reducible refine SinceOf.drewN ?_ _) | (with_reducible refine SinceOf.later ?_ _) | (with_reducible refine SinceOf.further ?_ _) | (with_reducible refine SinceOf.setCell ?_ (by first | exact Nat.le_refl _ | (simp; done) | omega | (simp; omega)) _)))) hgr4 (fun q hq => by have h1 := (hC2.below q hq).1; (try simp at h1 ⊢); omega)
                     have hx0 : w4.cell? ⟨z2.wd.heap.size, 0, none⟩ = some (.int .i64 x0) := by obtain ⟨y, hy⟩ := hs5; rw [hy, Since.cell]; simp [go_sem]
                     have hx1 : w4.cell? ⟨z2.wd.heap.size, 1, none⟩ = some (.int .i64 xm) := by obtain ⟨y, hy⟩ := hs5; rw [hy, Since.cell]; simp [go_sem]
                     have hx2 : w4.cell? ⟨z2.wd.heap.size, 2, none⟩ = some (.int .i64 x2) := by obtain ⟨y, hy⟩ := hs5; rw [hy, Since.cell]; simp [go_sem]
                     have hx3 : w4.cell? ⟨z2.wd.heap.size, 3, none⟩ = some (.int .i64 x3) := by obtain ⟨y, hy⟩ := hs5; rw [hy, Since.cell]; simp [go_sem]))
              all_goals go_wp2_with fail
              all_goals go_meet
              all_goals exact ⟨C4, d4, by simp, hown4, hs4⟩
            case rest =>
              obtain ⟨B3, b3, rfl, hB3, ⟨z5, rfl⟩⟩ := hcut
              have HB3 := Lib.hid hB3
              clear hB3 CT DI CS
              go_wp2_with fail
              have s5 := z5.size
              go_region_held3 (fun w' => w'.cell? ⟨gt, 0, none⟩ = some (.func (.func 40) #[] #[.pointer (some ⟨gj, 0, none⟩), .pointer (some ⟨gf, 0, none⟩), .pointer (some ⟨gl, 0, none⟩), .pointer (some ⟨go, 0, none⟩), .pointer (some ⟨gs, 0, none⟩), .pointer (some ⟨gt, 0, none⟩)])) ((simp [go_sem, *]))
                (first
                  | (go_at_call 42; refine (CN _ (by (repeat (first | (with_reducible exact SinceOf.refl _) | (with_reducible assumption) | (with_reducible refine SinceOf.alloc ?_ _) | (with_reducible refine SinceOf.drew ?_) | (with_reducible refine SinceOf.drewN ?_ _) | (with_reducible refine SinceOf.later ?_ _) | (with_reducible refine SinceOf.further ?_ _) | (with_reducible refine SinceOf.setCell ?_ (by first | exact Nat.le_refl _ | (simp; done) | omega | (simp; omega)) _))))).mono ?_; rintro e _ ⟨C2, d2, rfl, hC2, ⟨z4, rfl⟩⟩
                     have s4 := z4.size
                     (try simp at s4)
                     have hC3 : Owns encN 1 wr.heap.size 3 z4.wd C2 d2 list := hC2.base_le (by first | omega | (simp; omega)))
                  | (refine step_append_row rfl (.tmp 59) (.tmp 61) 51 rfl encN_len (by omega) encN_one i0 _ 8 Try.underlying51 ni nz0 nz1 nz2 rfl (l := list) (A := C2) (c := d2) (base := wr.heap.size) ?hs ?own (m := [(k : Int)]) rfl ?hm ?h63 ?hby ?hbase ?_
                     case hs => rfl
                     case own => first | exact hC3 | exact hC3.alloc _
                     case hm => first
                       | exact rowN_at z4.wd _ (k : Int) _ rfl
                       | exact (rowN_at z5.wd _ (k : Int) 3 rfl).of (by (repeat (first | (with_reducible exact SinceOf.refl _) | (with_reducible assumption) | (with_reducible refine SinceOf.alloc ?_ _) | (with_reducible refine SinceOf.drew ?_) | (with_reducible refine SinceOf.drewN ?_ _) | (with_reducible refine SinceOf.later ?_ _) | (with_reducible refine SinceOf.further ?_ _) | (with_reducible refine SinceOf.setCell ?_ (by first | exact Nat.le_refl _ | (simp; done) | omega | (simp; omega)) _))))
                     case h63 => unfold maxLen; simp; omega
                     case hby => simp; omega
                     case hbase => first | omega | (simp; omega)
                     intro C4 d4 w4 hown4 hgr4 hb4
                     have hs4 : SinceOf wr w4 := SinceOf.grown (by (repeat (first | (with_reducible exact SinceOf.refl _) | (with_reducible assumption) | (with_reducible refine SinceOf.alloc ?_ _) | (with_reducible refine SinceOf.drew ?_) | (with_reducible refine SinceOf.drewN ?_ _) | (with_reducible refine SinceOf.later ?_ _) | (with_reducible refine SinceOf.further ?_ _) | (with_reducible refine SinceOf.setCell ?_ (by first | exact Nat.le_refl _ | (simp; done) | omega | (simp; omega)) _)))) hgr4 (fun q hq => (hC3.below q hq).1)
                     have hs5 : SinceOf z5.wd w4 := SinceOf.grown (by (repeat (first | (with_reducible exact SinceOf.refl _) | (with_reducible assumption) | (with_reducible refine SinceOf.alloc ?_ _) | (with_reducible refine SinceOf.drew ?_) | (with_reducible refine SinceOf.drewN ?_ _) | (with_reducible refine SinceOf.later ?_ _) | (with_reducible refine SinceOf.further ?_ _) | (with_reducible refine SinceOf.setCell ?_ (by first | exact Nat.le_refl _ | (simp; done) | omega | (simp; omega)) _)))) hgr4 (fun q hq => by have h1 := (hC2.below q hq).1; (try simp at h1); omega)
                     have hsf := cell_since hs4 slf)
                  | (go_at_call 40; have RC := HIH.out C4 d4 B3 b3 w4 hs4 (hown4.isRow encN_len) (fun x hx => HNB.out x (hown4.below x hx).1) ((HB3.out.isRow encS_len).of hs5) (fun x hx => HNB.out x (HB3.out.below x hx).1) (by simp; omega); rw [List.length_append, List.length_singleton] at RC; refine RC.mono ?_; clear RC; rintro e w5 ⟨rfl, r1, r2, r3, r4⟩; have hsg := r1.self))
              all_goals
                have HR := Lib.hid (And.intro r1 (And.intro r2 (And.intro r3 (And.intro r4 hs4))))
                clear r1 r2 r3 r4 hs4 hs5 hsg hsf
                go_wp2_with fail
                go_roundg (L.length - (k + 1))
                case measure => omega
                case rel => exact ⟨k + 1, hlt, Nat.le_refl _, by go_num, HR.out.1, HR.out.2.1, (HK.out.2.2.1.trans (Keeps.since _ HR.out.2.2.2.2)).trans HR.out.2.2.1, HR.out.2.2.2.1⟩
        · rw [hq, if_pos rfl] at hts
          rw [hq] at CT
          have HK := Lib.hid (And.intro hbk (And.intro hokk (And.intro hkk (And.intro hwk hts))))
          clear hbk hokk hkk hwk hts hCk hBk hq
          go_wp2_with fail
          refine (CT _ (by (repeat (first | (with_reducible exact SinceOf.refl _) | (with_reducible assumption) | (with_reducible refine SinceOf.alloc ?_ _) | (with_reducible refine SinceOf.drew ?_) | (with_reducible refine SinceOf.drewN ?_ _) | (with_reducible refine SinceOf.later ?_ _) | (with_reducible refine SinceOf.further ?_ _) | (with_reducible refine SinceOf.setCell ?_ (by first | exact Nat.le_refl _ | (simp; done) | omega | (simp; omega)) _))))).calls.mono ?_
          rintro e _ ⟨rfl, z1, rfl⟩
          go_wp2_with fail
          go_roundg (L.length - (k + 1))
          case measure => omega
          case rel => exact ⟨k + 1, hlt, Nat.le_refl _, by go_num, by rw [HK.out.2.2.2.2]; exact HK.out.1.of (by (repeat (first | (with_reducible exact SinceOf.refl _) | (with_reducible assumption) | (with_reducible refine SinceOf.alloc ?_ _) | (with_reducible refine SinceOf.drew ?_) | (with_reducible refine SinceOf.drewN ?_ _) | (with_reducible refine SinceOf.later ?_ _) | (with_reducible refine SinceOf.further ?_ _) | (with_reducible refine SinceOf.setCell ?_ (by first | exact Nat.le_refl _ | (simp; done) | omega | (simp; omega)) _)))), by rw [HK.out.2.2.2.2]; exact HK.out.2.1, HK.out.2.2.1.trans (Keeps.since _ (by (repeat (first | (with_reducible exact SinceOf.refl _) | (with_reducible assumption) | (with_reducible refine SinceOf.alloc ?_ _) | (with_reducible refine SinceOf.drew ?_) | (with_reducible refine SinceOf.drewN ?_ _) | (with_reducible refine SinceOf.later ?_ _) | (with_reducible refine SinceOf.further ?_ _) | (with_reducible refine SinceOf.setCell ?_ (by first | exact Nat.le_refl _ | (simp; done) | omega | (simp; omega)) _))))), HK.out.2.2.2.1.trans (by (repeat (first | (with_reducible exact SinceOf.refl _) | (with_reducible assumption) | (with_reducible refine SinceOf.alloc ?_ _) | (with_reducible refine SinceOf.drew ?_) | (with_reducible refine SinceOf.drewN ?_ _) | (with_reducible refine SinceOf.later ?_ _) | (with_reducible refine SinceOf.further ?_ _) | (with_reducible refine SinceOf.setCell ?_ (by first | exact Nat.le_refl _ | (simp; done) | omega | (simp; omega)) _))))⟩
      · have hkl : k = L.length := by omega
        rw [hkl] at hbk hokk
        have HK := Lib.hid (And.intro hbk (And.intro hokk (And.intro hkk hwk)))
        clear hbk hokk hkk hwk hkl
        go_wp2_with fail
        go_returns
        exact ⟨rfl, HK.out.1, HK.out.2.1, HK.out.2.2.1, HK.out.2.2.2⟩
end Go.Proofs.Ytdcncalcncomoaa
