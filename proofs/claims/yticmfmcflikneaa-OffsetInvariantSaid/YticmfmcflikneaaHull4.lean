/- Layer 10: points in the order of X and Y. -/
import Derived.Test.YticmfmcflikneaaHull1
import Derived.Test.YticmfmcflikneaaHullP7
import Derived.Deep.RegionHeld3
namespace Go.Proofs.Yticmfmcflikneaa
open Go.RowKit Go.Sort
set_option linter.unusedVariables false
attribute [local go_sem ↓] Go.wp_at_zero Go.wp_at_succ

def cmpX (p q : Int × Int) : Int := vcmp p.2 p.1 q.2 q.1
theorem hullCmp_any (a b c d : Int) (w : World) : Gives Try.prog 63 #[vv a b, vv c d] w (.int .i64 (cmpX (a, b) (c, d))) := by
  apply Gives.ret
  go_enter Try.func63, Try.ntmps63
  go_wp2_with fail
  go_region_held3 (fun w' => w'.cell? ⟨w.heap.size, 0, none⟩ = some (.int .i64 a) ∧ w'.cell? ⟨w.heap.size, 1, none⟩ = some (.int .i64 b) ∧ w'.cell? ⟨w.heap.size + 1, 0, none⟩ = some (.int .i64 c) ∧ w'.cell? ⟨w.heap.size + 1, 1, none⟩ = some (.int .i64 d)) (go_keep)
    (first | (go_at_call 65; refine (cmpCompare_any _ _ _).mono ?_; rintro e w' ⟨rfl, rfl⟩) | (go_at_call 64; refine (cmpOr_any (cmpi a c) (cmpi b d) _ _ _ (by simp [go_sem]) (by simp [go_sem])).mono ?_; rintro e w' ⟨rfl, rfl⟩))
  go_wp2_with fail
  go_returns
  exact ⟨rfl, by (repeat (first | (with_reducible exact LaterOf.refl _) | (with_reducible refine LaterOf.alloc ?_ _) | (with_reducible refine LaterOf.drew ?_) | (with_reducible refine LaterOf.drewN ?_ _) | (with_reducible refine LaterOf.later ?_ _) | (with_reducible refine LaterOf.setCell ?_ (by first | exact Nat.le_refl _ | (simp; done) | omega | (simp; omega)) _)))⟩
instance lexltDec (p q : Int × Int) : Decidable (lexlt p q) := by unfold lexlt; infer_instance
theorem ltOf_cmpX (p q : Int × Int) : ltOf cmpX p q = decide (lexlt p q) := by
  have : ltOf cmpX p q = ltOf cmpV (p.2, p.1) (q.2, q.1) := rfl
  rw [this, ltOf_cmpV]
  exact decide_eq_decide.2 Iff.rfl
theorem swoX : SWO (ltOf cmpX) where
  irrefl x := by rw [ltOf_cmpX]; simp [lexlt]
  trans x y z h1 h2 := by rw [ltOf_cmpX, decide_eq_true_eq] at *; unfold lexlt at *; omega
  ntrans x y z h1 h2 := by rw [ltOf_cmpX, decide_eq_false_iff_not] at *; unfold lexlt at *; omega
theorem totX (x y : Int × Int) (h1 : ltOf cmpX x y = false) (h2 : ltOf cmpX y x = false) : x = y := by
  rw [ltOf_cmpX, decide_eq_false_iff_not] at *
  unfold lexlt at *
  exact Prod.ext (by omega) (by omega)
theorem cmpLaysX (blk off size : Nat) (w : World) : CmpLays Try.prog 63 #[] encV 2 cmpX blk off size w := by
  intro m os dk _ x y
  refine (hullCmp_any x.1 x.2 y.1 y.2 _).calls.mono ?_
  rintro e _ ⟨rfl, z, rfl⟩
  exact ⟨rfl, grow_of_later z⟩
def leX (p q : Int × Int) : Bool := !(ltOf cmpX q p)
def xsort (l : List (Int × Int)) : List (Int × Int) := l.mergeSort leX
theorem xsort_length (l : List (Int × Int)) : (xsort l).length = l.length := by unfold xsort; exact List.length_mergeSort l
theorem sortX_any (g off c : Nat) (l : List (Int × Int)) (w : World) (hL : Live encV 2 w g off l) (hn : l.length < 4611686018427387904) :
    Calls Try.prog 93 #[.slice (some ⟨g, off, none⟩) l.length c, .func (.func 63) #[] #[]] w fun e w' => e = .returned (.tuple #[]) ∧ Live encV 2 w' g off (xsort l) ∧ w.grownBy w' (some g) := by
  have eg : ∀ args w, (callFunc 63 args).run Try.prog w = .ok (.enter 63 args) w := Go.Proofs.enters_of Try.func63 (by kernel_rfl) rfl
  have hg : g < w.heap.size := hL.row.there.elim fun h => h.lt
  have hcon := AnyQ.slices_SortFunc_total Try.sortVec 2 Try.isAgg32 Try.sizeOf32 encV encV_len encV_one cmpX swoX 63 #[] g off c l.toArray w eg (cmpLaysX g off l.toArray.size w) (hL.holds encV_len (by omega)) hg (by simpa using hn) totX
  change Calls Try.prog 93 _ _ _ at hcon
  simp only [List.size_toArray] at hcon
  refine hcon.mono ?_
  rintro e w' ⟨rfl, n, os, rfl⟩
  refine ⟨rfl, ?_, sortWorld_grown encV 2 w g off n _ os⟩
  refine live_of_holds encV_len (by omega) ?_ ?_
  · have := (sortWorld_grown encV 2 w g off n (l.toArray.toList.mergeSort fun x y => !(ltOf cmpX) y x).toArray os).size; exact Nat.lt_of_lt_of_le hg this
  · have h1 := holdsK_putRowK encV 2 (Sort.ahead w n) g off l.toArray (xsort l).toArray (holdsK_ahead encV 2 w n g off _ (hL.holds encV_len (by omega))) (by simp [xsort_length])
    have h2 := holdsK_grow encV 2 _ os g off (xsort l).toArray (by simpa [putRowK, putRow, mapBlock, Sort.ahead] using hg) h1
    exact h2
theorem leX_iff (p q : Int × Int) : leX p q = true ↔ ¬ lexlt q p := by
  unfold leX; rw [ltOf_cmpX]; simp
theorem xsort_sorted (l : List (Int × Int)) : (xsort l).Pairwise (fun x y => leX x y = true) := by
  unfold xsort
  refine List.pairwise_mergeSort ?_ ?_ l
  · intro a b c h k
    rw [leX_iff] at *; unfold lexlt at *; omega
  · intro a b
    rw [Bool.or_eq_true, leX_iff, leX_iff]; unfold lexlt; omega
theorem compact_strictX (l : List (Int × Int)) (hs : l.Pairwise (fun x y => leX x y = true)) : ∀ n, n ≤ l.length →
    (Lib.compactUpTo l.toArray n).Pairwise lexlt ∧ ∀ x, x ∈ Lib.compactUpTo l.toArray n ↔ x ∈ l.take n
  | 0, _ => by simp [Lib.compactUpTo]
  | n + 1, hn => by
    obtain ⟨h1, h2⟩ := compact_strictX l hs n (by omega)
    have hg : l.toArray[n]! = l[n] := by simp [show n < l.length from hn]
    rw [Lib.compactUpTo_succ, hg]
    have hle : ∀ j (hj : j < n), leX l[j] l[n] = true := fun j hj => List.pairwise_iff_getElem.1 hs j n (by omega) hn hj
    by_cases hk : Lib.keeps l.toArray n = true
    · rw [if_pos hk]
      refine ⟨?_, ?_⟩
      · rw [List.pairwise_append]
        refine ⟨h1, by simp, ?_⟩
        intro x hx y hy
        rw [List.mem_singleton] at hy
        subst hy
        rw [h2, List.mem_take_iff_getElem] at hx
        obtain ⟨j, hj, rfl⟩ := hx
        have hjn : j < n := by omega
        have hne : l[n - 1] ≠ l[n] := by
          intro e
          have : Lib.keeps l.toArray n = false := Lib.keeps_neg (by omega) (by rw [hg]; simp [show n - 1 < l.length from by omega, e])
          rw [this] at hk; cases hk
        have a1 : leX l[j] l[n - 1] = true := by
          by_cases e : j = n - 1
          · subst e; rw [leX_iff]; unfold lexlt; omega
          · exact List.pairwise_iff_getElem.1 hs j (n - 1) (by omega) (by omega) (by omega)
        have a2 := hle (n - 1) (by omega)
        rw [leX_iff] at a1 a2
        have a3 : ¬ (l[n - 1].1 = l[n].1 ∧ l[n - 1].2 = l[n].2) := fun h => hne (Prod.ext h.1 h.2)
        unfold lexlt at *
        omega
      · intro x
        rw [List.mem_append, h2, List.take_succ_eq_append_getElem hn, List.mem_append]
    · have hk : Lib.keeps l.toArray n = false := by simpa using hk
      rw [hk]
      have hn0 : 0 < n := by
        rcases Nat.eq_zero_or_pos n with rfl | h
        · rw [Lib.keeps_lt_one _ 0 (by omega)] at hk; cases hk
        · exact h
      have he : l[n - 1] = l[n] := by
        by_cases e : l[n - 1] = l[n]
        · exact e
        · have : Lib.keeps l.toArray n = true := Lib.keeps_pos (by rw [hg]; simp [show n - 1 < l.length from by omega]; exact fun h => e h.symm)
          rw [this] at hk; cases hk
      refine ⟨by simpa using h1, fun x => ?_⟩
      simp only [Bool.false_eq_true, if_false, List.append_nil]
      rw [List.take_succ_eq_append_getElem hn, List.mem_append, ← h2, List.mem_singleton]
      refine ⟨fun h => .inl h, ?_⟩
      rintro (h | rfl)
      · exact h
      · rw [h2, List.mem_take_iff_getElem]
        exact ⟨n - 1, by omega, he⟩
/-- The different points in the order of X and Y. -/
def xpts (l : List (Int × Int)) : List (Int × Int) := compactV (xsort l)
theorem xpts_strict (l : List (Int × Int)) : (xpts l).Pairwise lexlt ∧ ∀ x, x ∈ xpts l ↔ x ∈ l := by
  obtain ⟨h1, h2⟩ := compact_strictX (xsort l) (xsort_sorted l) (xsort l).length (Nat.le_refl _)
  refine ⟨h1, fun x => ?_⟩
  unfold xpts compactV
  rw [h2, List.take_length]
  unfold xsort
  exact List.mem_mergeSort
end Go.Proofs.Yticmfmcflikneaa
/- Layer 10 (plain): what Hull returns. -/
namespace Go.Proofs.Yticmfmcflikneaa
open Go.RowKit
set_option linter.unusedVariables false

theorem far_bounds {l : List Pt} (h : l.any farB = false) : ∀ p ∈ l, (-8000 ≤ p.1 ∧ p.1 ≤ 8000) ∧ (-8000 ≤ p.2 ∧ p.2 ≤ 8000) := by
  intro p hp
  have := List.any_eq_false.1 h p hp
  unfold farB withinB at this
  rw [show wneg 8000 = -8000 from by unfold wneg wrap64; omega] at this
  simp only [Bool.not_eq_true', Bool.not_eq_false, Bool.and_eq_true, decide_eq_true_eq] at this
  omega
theorem far_of {p : Pt} (h : (-8000 ≤ p.1 ∧ p.1 ≤ 8000) ∧ (-8000 ≤ p.2 ∧ p.2 ≤ 8000)) : farB p = false := by
  unfold farB withinB
  rw [show wneg 8000 = -8000 from by unfold wneg wrap64; omega]
  simp; omega
def Flat (l : List Pt) : Prop := ∀ u ∈ l, ∀ v ∈ l, ∀ w ∈ l, det u v w = 0
def HullRes (l r : List Pt) (err : Int) : Prop :=
  (400 < l.length ∧ r = [] ∧ err = 9) ∨ (l.length ≤ 400 ∧ l.any farB = true ∧ r = [] ∧ err = 2) ∨ (l.length ≤ 400 ∧ l.any farB = false ∧ Flat l ∧ r = [] ∧ err = 11) ∨
  (l.length ≤ 400 ∧ l.any farB = false ∧ ∃ h, HullY l h ∧ ((160 < h.length ∧ r = [] ∧ err = 9) ∨ (h.length ≤ 160 ∧ r = h ∧ err = 0)))
theorem not_flat {l r : List Pt} (h : IsHull l r) : ¬ Flat l := fun hf => by
  obtain ⟨u, hu, v, hv, w, hw, hne⟩ := HullR.not_line h
  exact hne (hf u hu v hv w hw)
theorem HullRes.unique {l r r' : List Pt} {e e' : Int} (h : HullRes l r e) (h' : HullRes l r' e') : r = r' ∧ e = e' := by
  rcases h with ⟨a, rfl, rfl⟩ | ⟨a, b, rfl, rfl⟩ | ⟨a, b, c, rfl, rfl⟩ | ⟨a, b, x, hx, h⟩ <;> rcases h' with ⟨a', rfl, rfl⟩ | ⟨a', b', rfl, rfl⟩ | ⟨a', b', c', rfl, rfl⟩ | ⟨a', b', x', hx', h'⟩
  all_goals first
    | exact ⟨rfl, rfl⟩
    | (exfalso; omega)
    | (exfalso; rw [b] at b'; cases b'; done)
    | (exfalso; exact not_flat hx.hull c'; done)
    | (exfalso; exact not_flat hx'.hull c; done)
    | (have e := hx.unique hx'
       subst e
       rcases h with ⟨p1, rfl, rfl⟩ | ⟨p1, rfl, rfl⟩ <;> rcases h' with ⟨p2, rfl, rfl⟩ | ⟨p2, rfl, rfl⟩
       all_goals first
         | exact ⟨rfl, rfl⟩
         | (exfalso; omega))
def lowX (l : List Pt) : List Pt := lowC (xpts l)
def uppX (l : List Pt) : List Pt := lowC (xpts l).reverse
theorem hull_flat {l : List Pt} (hf : l.any farB = false) (h : (lowX l).length < 2 ∨ (lowX l).length + (uppX l).length - 2 < 3) : Flat l := by
  obtain ⟨hs, hm⟩ := xpts_strict l
  by_cases h2 : 2 ≤ (xpts l).length
  · obtain ⟨a, b, c⟩ := hull_or_line (M := 8000) (pts := xpts l) (fun q hq => (far_bounds hf q ((hm q).1 hq)).2) hs h2
    rcases c with ⟨c, -⟩ | ⟨-, c⟩
    · unfold lowX uppX at h; omega
    · exact fun u hu v hv w hw => c u ((hm u).2 hu) v ((hm v).2 hv) w ((hm w).2 hw)
  · intro u hu v hv w hw
    have one : ∀ p ∈ l, ∀ q ∈ l, p = q := fun p hp q hq => by
      have hp' := (hm p).2 hp
      have hq' := (hm q).2 hq
      match xpts l, h2, hp', hq' with
      | [], _, hp', _ => cases hp'
      | [x], _, hp', hq' => simp at hp' hq'; rw [hp', hq']
      | x :: y :: r, h2, _, _ => simp at h2
    rw [one u hu w hw, one v hv w hw]
    exact det_end w w
theorem hull_is {l : List Pt} (hf : l.any farB = false) (h1 : ¬ (lowX l).length < 2) (h2 : ¬ (lowX l).length + (uppX l).length - 2 < 3) : IsHull l ((lowX l).dropLast ++ (uppX l).dropLast) := by
  obtain ⟨hs, hm⟩ := xpts_strict l
  have h3 : 2 ≤ (xpts l).length := by
    rcases Nat.lt_or_ge (xpts l).length 2 with h | h
    · exfalso
      apply h1
      unfold lowX
      match xpts l, h with
      | [], _ => decide
      | [x], _ => simp [lowC, chainC, popC]
    · exact h
  obtain ⟨a, b, c⟩ := hull_or_line (M := 8000) (pts := xpts l) (fun q hq => (far_bounds hf q ((hm q).1 hq)).2) hs h3
  rcases c with ⟨-, c, -⟩ | ⟨c, -⟩
  · exact c.more (fun q hq => (hm q).2 hq) (fun v hv => (hm v).1 (c.sub v hv))
  · unfold lowX uppX at h2; omega
/-- A point ahead of another one by Y and X. -/
theorem vcmp_lexy (p q : Pt) : vcmp p.1 p.2 q.1 q.2 < 0 ↔ lexy p q := by
  unfold lexy
  rcases vcmp_cases p.1 p.2 q.1 q.2 with ⟨h, e⟩ | ⟨h, e⟩ | ⟨h1, h2, e⟩ <;> rw [e] <;> constructor <;> intro k <;> omega
theorem turn_det {a b c : Pt} (ha : farB a = false) (hb : farB b = false) (hc : farB c = false) : turnI a.1 a.2 b.1 b.2 c.1 c.2 = cmpi (det a b c) 0 := by
  have h1 := far_bounds (l := [a, b, c]) (by simp [ha, hb, hc])
  have a1 := h1 a (by simp)
  have b1 := h1 b (by simp)
  have c1 := h1 c (by simp)
  unfold near29 at *
  exact turn_exact ⟨by omega, by omega⟩ ⟨by omega, by omega⟩ ⟨by omega, by omega⟩ ⟨by omega, by omega⟩ ⟨by omega, by omega⟩ ⟨by omega, by omega⟩
theorem cmpi_pos (x : Int) : 0 < cmpi x 0 ↔ 0 < x := by rcases cmpi_cases x 0 with ⟨h, e⟩ | ⟨h1, h2, e⟩ | ⟨h1, h2, e⟩ <;> rw [e] <;> omega
theorem cmpi_le (x : Int) : cmpi x 0 ≤ 0 ↔ x ≤ 0 := by rcases cmpi_cases x 0 with ⟨h, e⟩ | ⟨h1, h2, e⟩ | ⟨h1, h2, e⟩ <;> rw [e] <;> omega
theorem cmpi_lt (x : Int) : cmpi x 0 < 0 ↔ x < 0 := by rcases cmpi_cases x 0 with ⟨h, e⟩ | ⟨h1, h2, e⟩ | ⟨h1, h2, e⟩ <;> rw [e] <;> omega
theorem cmpi_eq0 (x : Int) : cmpi x 0 = 0 ↔ x = 0 := by rcases cmpi_cases x 0 with ⟨h, e⟩ | ⟨h1, h2, e⟩ | ⟨h1, h2, e⟩ <;> rw [e] <;> omega
end Go.Proofs.Yticmfmcflikneaa
