/- Layer 46: rows of pairs; sorting them by their first numbers. -/
import Derived.Test.YtkpnffokjpgalaaGreatKJnt19
import Derived.Test.YtkpnffokjpgalaaGreatKSortLay
import Derived.Shelf.SlSortCmp.NoneTotal
namespace Go.Proofs.YtkpnffokjpgalaaGreat
set_option linter.unusedVariables false
set_option linter.unusedSimpArgs false
open Go.RowKit Go.Sort
attribute [local go_sem ↓] Go.wp_at_zero Go.wp_at_succ

theorem infoIvJ : (Tryz.prog.info? 83).map (fun i => (i.zero, i.size, i.bytes)) = some (some (.agg #[.int .i64 0, .int .i64 0]), 2, 16) := by kernel_rfl
abbrev OwnIvs (base : Nat) (w : World) (A : Option Addr) (c : Nat) (l : List (Int × Int)) : Prop := Owns encV 2 base 83 w A c l
theorem isRow_atJ (W : World) (g : Nat) (x y : Int) (hg : W.heap.size = g) : IsVecs (W.alloc (.cells #[.int .i64 x, .int .i64 y] 83)) (some ⟨g, 0, none⟩) 1 [(x, y)] := by
  subst hg
  have h : OwnIvs W.heap.size (W.alloc (.cells #[.int .i64 x, .int .i64 y] 83)) (some ⟨W.heap.size, 0, none⟩) 1 [(x, y)] := World.ownsRow_lit W _ 1 (Nat.le_refl _) (by decide) rfl
  exact h.isRow encV_len
def cmp0 (p q : Int × Int) : Int := cmpi p.1 q.1
theorem ltOf_cmp0 (p q : Int × Int) : ltOf cmp0 p q = decide (p.1 < q.1) := by unfold ltOf cmp0 cmpi; split <;> (try split) <;> simp <;> omega
theorem swo0 : SWO (ltOf cmp0) where
  irrefl x := by rw [ltOf_cmp0]; simp
  trans x y z h1 h2 := by rw [ltOf_cmp0] at *; simp at *; omega
  ntrans x y z h1 h2 := by rw [ltOf_cmp0] at *; simp at *; omega
/-- A function that compares pairs by their first numbers. -/
structure Cmps0 (f : FuncId) : Prop where
  gives : ∀ a b c d w, Gives Tryz.prog f #[vv a b, vv c d] w (.int .i64 (cmpi a c))
  enters : ∀ args w, (callFunc f args).run Tryz.prog w = .ok (.enter f args) w
theorem Cmps0.lays {f : FuncId} (hf : Cmps0 f) (blk off size : Nat) (w : World) : CmpLays Tryz.prog f #[] encV 2 cmp0 blk off size w := by
  intro m os dk _ x y
  refine (hf.gives x.1 x.2 y.1 y.2 _).calls.mono ?_
  rintro e _ ⟨rfl, z, rfl⟩
  exact ⟨rfl, grow_of_later z⟩
/-- An owned row whose cells alone have turned is owned still. -/
theorem owns_again {α : Type} {enc : α → List Value} {k base : Nat} {e : TypeId} {w w' : World} {g c : Nat} {l m : List α} (hk : ∀ x, (enc x).length = k) (hk0 : 0 < k) (h : Owns enc k base e w (some ⟨g, 0, none⟩) c l) (hm : m.length = l.length) (hl : Live enc k w' g 0 m)
    (hb : ∀ cur, w.heap[g]? = some (.cells cur e (0, 0)) → ∃ cur', w'.heap[g]? = some (.cells cur' e (0, 0)) ∧ cur'.size = cur.size) : Owns enc k base e w' (some ⟨g, 0, none⟩) c m := by
  have hfl : ∀ l : List α, (l.flatMap enc).length = l.length * k := fun l => by
    induction l with
    | nil => simp
    | cons x l ih => rw [List.flatMap_cons, List.length_append, hk, ih, List.length_cons, Nat.succ_mul, Nat.add_comm]
  unfold Owns at *
  rcases h.2 with ⟨h', -⟩ | ⟨g', cap', cur, h', hb2, hg, h1, h2, h3, h4⟩
  · simp at h'
  · simp only [Value.slice.injEq, Option.some.injEq, Addr.mk.injEq, and_true, true_and] at h'
    obtain ⟨rfl, rfl⟩ := h'
    obtain ⟨cur', hc1, hc2⟩ := hb cur hg
    refine ⟨hfl m, .inr ⟨g, c, cur', rfl, hb2, hc1, by omega, h2, by rw [hc2]; exact h3, ?_⟩⟩
    apply List.ext_getElem?
    intro j
    rw [List.getElem?_take]
    by_cases hj : j < m.length * k
    · rw [if_pos hj]
      have hj2 : j < (m.flatMap enc).length := by rw [hfl]; exact hj
      have := hl.row.news hk hk0 j _ (List.getElem?_eq_getElem hj2)
      rw [show (⟨g, 0, none⟩ : Addr).add j = ⟨g, j, none⟩ by simp [Addr.add]; omega, cell_of_row w' g j cur' e (0, 0) hc1] at this
      rw [List.getElem?_eq_getElem hj2, ← this]
      simp
    · rw [if_neg hj, List.getElem?_eq_none (by rw [hfl]; omega)]
theorem sortWorld_block {α : Type} [Inhabited α] (enc : α → List Value) (k : Nat) (w : World) (g off n : Nat) (d : Array α) (os : Array Obj) {e : TypeId} {cur : Array Value} (h : w.heap[g]? = some (.cells cur e (0, 0))) :
    ∃ cur', (sortWorldK enc k w g off n d os).heap[g]? = some (.cells cur' e (0, 0)) ∧ cur'.size = cur.size := by
  have hg : g < w.heap.size := (Array.getElem?_eq_some_iff.1 h).1
  refine ⟨putCells id off (flatK enc k d) cur, ?_, by simp [putCells]⟩
  simp only [sortWorldK, grow, putRowK, putRow, mapBlock, Sort.ahead]
  rw [Array.getElem?_append_left (by simpa using hg)]
  simp [Array.getElem?_modify, h, onCells]
/-- SortFunc by the first numbers: a permutation in which these do not fall. -/
theorem sortIvs_any {f : FuncId} (hf : Cmps0 f) (base g c : Nat) (l : List (Int × Int)) (w : World) (h : OwnIvs base w (some ⟨g, 0, none⟩) c l) (h0 : 0 < l.length) (hn : l.length < 4611686018427387904) :
    Calls Tryz.prog 67 #[.slice (some ⟨g, 0, none⟩) l.length c, .func (.func f) #[] #[]] w fun e w' => e = .returned (.tuple #[]) ∧ ∃ m, m.Perm l ∧ m.Pairwise (fun a b => a.1 ≤ b.1) ∧ OwnIvs base w' (some ⟨g, 0, none⟩) c m ∧ w.grownBy w' (some g) := by
  obtain ⟨g', eg', -, hL⟩ := Owns.live encV_len h h0
  simp only [Option.some.injEq, Addr.mk.injEq, and_true] at eg'
  subst eg'
  have hg : g < w.heap.size := hL.row.there.elim fun h => h.lt
  have hcon := AnyQ.slices_SortFunc Tryz.sortIvs 2 Tryz.isAgg83 Tryz.sizeOf83 encV encV_len encV_one cmp0 swo0 f #[] g 0 c l.toArray w hf.enters (hf.lays g 0 l.toArray.size w) (hL.holds encV_len (by omega)) hg (by simpa using hn)
  change Calls Tryz.prog 67 _ _ _ at hcon
  simp only [List.size_toArray] at hcon
  refine hcon.mono ?_
  rintro e w' ⟨rfl, d', n, os, hp, hs, rfl⟩
  obtain ⟨hsz, -, hperm⟩ := hp
  have hsz' : d'.size = l.length := by simpa using hsz
  refine ⟨rfl, d'.toList, ?_, ?_, ?_, sortWorld_grown encV 2 w g 0 n _ os⟩
  · have h1 : d'.extract 0 l.length = d' := by rw [← hsz', Array.extract_size]
    have h2 : l.toArray.extract 0 l.length = l.toArray := by simp
    rw [h1, h2] at hperm
    exact hperm
  · rw [List.pairwise_iff_getElem]
    intro i j hi hj hij
    have := hs i j (Nat.zero_le _) hij (by simpa [hsz'] using hj)
    rw [ltOf_cmp0] at this
    have hi' : i < d'.size := by simpa using hi
    have hj' : j < d'.size := by simpa using hj
    simp only [getElem!_pos d' i hi', getElem!_pos d' j hj', decide_eq_false_iff_not] at this
    simp only [Array.getElem_toList]; omega
  · refine owns_again encV_len (by omega) h (by simpa using hsz') ?_ (fun cur hc => sortWorld_block encV 2 w g 0 n d' os hc)
    refine live_of_holds encV_len (by omega) ?_ ?_
    · have := (sortWorld_grown encV 2 w g 0 n d' os).size; exact Nat.lt_of_lt_of_le hg this
    · have h1 := holdsK_putRowK encV 2 (Sort.ahead w n) g 0 l.toArray d' (holdsK_ahead encV 2 w n g 0 _ (hL.holds encV_len (by omega))) (by simpa using hsz)
      have h2 := holdsK_grow encV 2 _ os g 0 d' (by simpa [putRowK, putRow, mapBlock, Sort.ahead] using hg) h1
      show HoldsK encV 2 _ g 0 d'.toList.toArray
      rw [Array.toArray_toList]
      exact h2
/-- The same for a row of one's own, the empty one too. -/
theorem sortOwn_any {f : FuncId} (hf : Cmps0 f) (base : Nat) (A : Option Addr) (c : Nat) (F : List (Int × Int)) (w : World) (h : OwnIvs base w A c F) (hn : F.length ≤ 100000) :
    Calls Tryz.prog 67 #[.slice A F.length c, .func (.func f) #[] #[]] w fun e w' => e = .returned (.tuple #[]) ∧ ∃ m, m.Perm F ∧ m.Pairwise (fun a b => a.1 ≤ b.1) ∧ OwnIvs base w' A c m ∧ w.grownBy w' (blockOf A) := by
  by_cases h0 : F.length = 0
  · have hF : F = [] := List.length_eq_zero_iff.1 h0
    subst hF
    have := AnyF.slices_SortFunc_none Tryz.sortIvs A c (.func (.func f) #[] #[]) w
    change Calls Tryz.prog 67 _ _ _ at this
    refine this.mono ?_
    rintro e w' ⟨rfl, rfl⟩
    exact ⟨rfl, [], List.Perm.refl _, List.Pairwise.nil, h, World.grownBy.refl _ _⟩
  · obtain ⟨g, rfl, hg, hL⟩ := Owns.live encV_len h (by omega)
    refine (sortIvs_any hf base g c F w h (by omega) (by omega)).mono ?_
    rintro e w' ⟨rfl, m, h1, h2, h3, h4⟩
    exact ⟨rfl, m, h1, h2, h3, h4⟩
set_option maxRecDepth 100000 in
set_option maxHeartbeats 4000000 in
theorem left1_any (a b c d : Int) (w : World) : Gives Tryz.prog 87 #[vv a b, vv c d] w (.int .i64 (cmpi a c)) := by
  apply Gives.ret
  go_enter Tryz.func87, Tryz.ntmps87
  go_wp2_with fail
  refine (cmpCompare_any _ _ _).mono ?_
  rintro e w' ⟨rfl, rfl⟩
  go_wp2_with fail
  go_returns
  exact ⟨rfl, by (repeat (first | (with_reducible exact LaterOf.refl _) | (with_reducible refine LaterOf.alloc ?_ _) | (with_reducible refine LaterOf.drew ?_) | (with_reducible refine LaterOf.drewN ?_ _) | (with_reducible refine LaterOf.later ?_ _) | (with_reducible refine LaterOf.setCell ?_ (by first | exact Nat.le_refl _ | (simp; done) | omega | (simp; omega)) _)))⟩
theorem left1_cmps : Cmps0 87 := ⟨left1_any, Go.Proofs.enters_of Tryz.func87 (by kernel_rfl) rfl⟩
end Go.Proofs.YtkpnffokjpgalaaGreat
