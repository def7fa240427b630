/- A row that the call may write ('Live'), and what slices.SortFunc leaves of it. -/
import Derived.Test.YtkpnffokjpgalaaGreatKVecs
import Derived.Shelf.SlSortCmp.InsertionK
namespace Go.Proofs.YtkpnffokjpgalaaGreat
set_option linter.unusedVariables false
set_option linter.unusedSimpArgs false
open Go.RowKit Go.Sort

structure Live {α : Type} (enc : α → List Value) (k : Nat) (w : World) (g off : Nat) (l : List α) : Prop where
  row : RowAt enc k w g off l
  free : ∀ j, j < l.length * k → w.frozen? ⟨g, off + j, none⟩ = false

section
variable {α : Type} {enc : α → List Value} {k : Nat} {w w' : World} {g off c : Nat} {l : List α}
theorem Live.isRow (h : Live enc k w g off l) : IsRow enc k w (some ⟨g, off, none⟩) c l := ⟨(by intro h; cases h), .inr ⟨g, off, rfl, h.row⟩⟩
theorem Live.of (h : Live enc k w g off l) (hs : SinceOf w w') : Live enc k w' g off l := by
  refine ⟨h.row.of hs, fun j hj => ?_⟩
  obtain ⟨z, rfl⟩ := hs
  have := h.row.there
  rw [Since.frozen]; exact h.free j hj
theorem Owns.live {base : Nat} {e : TypeId} {A : Option Addr} (hk : ∀ x, (enc x).length = k) (h : Owns enc k base e w A c l) (hn : 0 < l.length) : ∃ g, A = some ⟨g, 0, none⟩ ∧ base ≤ g ∧ Live enc k w g 0 l := by
  have hr := h.isRow hk
  obtain ⟨g', cap, hv, hb, hlt⟩ := World.ownsRow.form h hn
  simp only [Value.slice.injEq, true_and] at hv
  obtain ⟨rfl, rfl⟩ := hv
  obtain ⟨g, off, e1, hr⟩ := hr.at_ hn
  simp only [Option.some.injEq, Addr.mk.injEq, and_true] at e1
  obtain ⟨rfl, rfl⟩ := e1
  refine ⟨g', rfl, hb, hr, fun j _ => ?_⟩
  rw [Nat.zero_add]
  exact World.ownsRow.frozenAt h j
theorem Live.holds [Inhabited α] (hk : ∀ x, (enc x).length = k) (hk0 : 0 < k) (h : Live enc k w g off l) : HoldsK enc k w g off l.toArray := by
  intro j hj
  rw [size_flatK] at hj
  have hj' : j < l.length * k := by simpa using hj
  have hi : j / k < l.length := Nat.div_lt_of_lt_mul (by rw [Nat.mul_comm]; exact hj')
  rw [get_flatK _ _ _ _ hj]
  refine ⟨?_, h.free j hj'⟩
  have hm : j % k < (enc l[j / k]).length := by rw [hk]; exact Nat.mod_lt _ hk0
  have := h.row.cells (j / k) hi (j % k) ((enc l[j / k])[j % k]) (List.getElem?_eq_getElem hm)
  rw [Nat.add_assoc, Nat.mul_comm, Nat.div_add_mod] at this
  rw [this]
  have e1 : l.toArray[j / k]! = l[j / k] := by simp [hi]
  rw [e1]
  simp [hm]
theorem live_of_holds [Inhabited α] (hk : ∀ x, (enc x).length = k) (hk0 : 0 < k) (hg : g < w.heap.size) (h : HoldsK enc k w g off l.toArray) : Live enc k w g off l := by
  refine ⟨⟨fun i hi j u hu => ?_, ⟨⟨hg⟩⟩⟩, fun j hj => ?_⟩
  · have hj : j < k := by
      have := (List.getElem?_eq_some_iff.1 hu).1
      rwa [hk] at this
    have := (HoldsK.cell h (i := i) (c := j) (by simpa using hi) hj).1
    rw [this]
    have e1 : l.toArray[i]! = l[i] := by simp [hi]
    rw [e1]
    obtain ⟨h1, h2⟩ := List.getElem?_eq_some_iff.1 hu
    simp [h1, h2]
  · exact (h j (by rw [size_flatK]; simpa using hj)).2
end

/-- Worlds of the sort's: only block g has turned. -/
theorem sortWorld_grown {α : Type} [Inhabited α] (enc : α → List Value) (k : Nat) (w : World) (g off n : Nat) (d : Array α) (os : Array Obj) : w.grownBy (sortWorldK enc k w g off n d os) (some g) := by
  refine ⟨rfl, rfl, rfl, ?_, fun i hi hne => ?_⟩
  · simp [sortWorldK, grow, putRowK, putRow, mapBlock, Sort.ahead]
  · have hne' : i ≠ g := fun e => hne (by rw [e])
    simp only [sortWorldK, grow, putRowK, putRow, mapBlock, Sort.ahead]
    rw [Array.getElem?_append_left (by simpa using hi)]
    simp [Array.getElem?_modify, Ne.symm hne']

theorem grownBy_setCell {w : World} {g : Nat} {p : Addr} (hp : p.block = g) (u : Value) : w.grownBy (w.setCell p u) (some g) :=
  ⟨rfl, rfl, rfl, by simp [World.setCell], fun k _ hk => RowKit.Below.heap_setCell w p u k (fun e => hk (by rw [e, hp]))⟩
theorem grownBy_setCells (g : Nat) : ∀ (vs : List Value) (o : Nat) (w : World), w.grownBy (w.setCells g o vs) (some g)
  | [], _, w => World.grownBy.refl _ _
  | v :: r, o, w => by
    rw [World.setCells]
    exact (grownBy_setCell (p := ⟨g, o, none⟩) rfl v).trans (grownBy_setCells g r _ _)
theorem Later.grownBy {w : World} (z : Later w) (row : Option Nat) : w.grownBy z.wd row := ⟨z.below.os, z.below.tape, z.below.output, z.below.size, fun i hi _ => z.below.block i hi⟩
theorem Since.grownBy {w : World} (z : Since w) (row : Option Nat) : w.grownBy z.wd row := ⟨z.below.os, z.below.tape, z.below.output, z.below.size, fun i hi _ => z.below.block i hi⟩

/-- 's[i] = x' in a row of vectors. -/
theorem Live.set {w : World} {g off : Nat} {l : List (Int × Int)} (h : Live encV 2 w g off l) (i : Nat) (hi : i < l.length) (x y : Int) :
    Live encV 2 ((w.setCell ⟨g, off + i * 2, none⟩ (.int .i64 x)).setCell ⟨g, off + i * 2 + 1, none⟩ (.int .i64 y)) g off (l.set i (x, y)) := by
  have hO := h.row.there
  have c0 := h.row.v0 i hi
  have c1 := h.row.v1 i hi
  refine ⟨⟨fun j hj t u hu => ?_, inferInstance⟩, fun j hj => ?_⟩
  · have hj' : j < l.length := by simpa using hj
    have ht : t < 2 := by
      have := (List.getElem?_eq_some_iff.1 hu).1
      rwa [encV_len] at this
    by_cases e : j = i
    · subst e
      simp only [List.getElem_set_self, encV] at hu
      match t, ht with
      | 0, _ =>
        simp at hu; subst hu
        rw [Nat.add_zero, World.cell?_setCell_other _ _ _ _ (by simp)]
        exact World.cell?_setCell_same _ _ _ c0
      | 1, _ =>
        simp at hu; subst hu
        exact World.cell?_setCell_same (u := .int .i64 l[j].2) _ _ _ (by rw [World.cell?_setCell_other _ _ _ _ (by simp)]; exact c1)
    · rw [List.getElem_set_ne (by omega)] at hu
      rw [World.cell?_setCell_other _ _ _ _ (by intro h; injection h with _ h2 _; omega), World.cell?_setCell_other _ _ _ _ (by intro h; injection h with _ h2 _; omega)]
      exact h.row.cells j hj' t u hu
  · rw [List.length_set] at hj
    simp only [World.frozen?_setCell]
    exact h.free j hj
theorem Live.take {α : Type} {enc : α → List Value} {k : Nat} {w : World} {g off : Nat} {l : List α} (h : Live enc k w g off l) (n : Nat) : Live enc k w g off (l.take n) := by
  refine ⟨⟨fun i hi j u hu => ?_, h.row.there⟩, fun j hj => h.free j (Nat.lt_of_lt_of_le hj (Nat.mul_le_mul_right _ (by rw [List.length_take]; exact Nat.min_le_right _ _)))⟩
  have hi' : i < l.length := by simp at hi; omega
  rw [List.getElem_take] at hu
  exact h.row.cells i hi' j u hu
/-- Stores behind the row's first elements leave these. -/
theorem Live.behind {α : Type} {enc : α → List Value} {k : Nat} {w : World} {g off : Nat} {l : List α} (hk : ∀ x, (enc x).length = k) (h : Live enc k w g off l) (o : Nat) (ho : off + l.length * k ≤ o) (vs : List Value) : Live enc k (w.setCells g o vs) g off l := by
  refine ⟨⟨fun i hi j u hu => ?_, ?_⟩, fun j hj => ?_⟩
  · rw [World.cell?_setCells_out]
    · exact h.row.cells i hi j u hu
    · intro _ _
      left
      have hj : j < k := by
        have := (List.getElem?_eq_some_iff.1 hu).1
        rwa [hk] at this
      have : i * k + k ≤ l.length * k := by rw [← Nat.succ_mul]; exact Nat.mul_le_mul_right _ hi
      simp only; omega
  · exact h.row.there.elim fun q => ⟨⟨Nat.lt_of_lt_of_le q.lt (grownBy_setCells g vs o w).size⟩⟩
  · rw [World.frozen?_setCells]; exact h.free j hj

def cmpV (p q : Int × Int) : Int := vcmp p.1 p.2 q.1 q.2
/-- The order of vectors, as the sort asks it. -/
def leV (p q : Int × Int) : Bool := !(ltOf cmpV q p)
def vsort (l : List (Int × Int)) : List (Int × Int) := l.mergeSort leV
theorem vsort_length (l : List (Int × Int)) : (vsort l).length = l.length := by unfold vsort; simp

theorem grow_of_later {w : World} (x : Later w) : ∃ q os', x.wd = grow (w.drewN q) os' := by
  refine ⟨x.wd.drawn - w.drawn, x.wd.heap.extract w.heap.size x.wd.heap.size, ?_⟩
  obtain ⟨wd, hb, hd⟩ := x
  have hh : wd.heap = w.heap ++ wd.heap.extract w.heap.size wd.heap.size := by
    apply Array.ext_getElem?
    intro i
    by_cases hi : i < w.heap.size
    · rw [Array.getElem?_append_left hi]; exact hb.block i hi
    · rw [Array.getElem?_append_right (by omega)]
      have := hb.size
      simp only [Array.getElem?_extract]
      by_cases hi2 : i < wd.heap.size
      · simp; rw [show w.heap.size + (i - w.heap.size) = i from by omega, if_pos (by omega)]
      · simp [Array.getElem?_eq_none (Nat.le_of_not_lt hi2)]; omega
  show wd = grow (w.drewN (wd.drawn - w.drawn)) (wd.heap.extract w.heap.size wd.heap.size)
  have h1 := hb.os
  have h2 := hb.tape
  have h3 := hb.output
  have h4 : wd.drawn = w.drawn + (wd.drawn - w.drawn) := by have : w.drawn ≤ wd.drawn := hd; omega
  obtain ⟨heap, tape, drawn, os, output⟩ := wd
  simp only [grow, World.drewN] at *
  subst h1 h2 h3
  rw [← hh, ← h4]

end Go.Proofs.YtkpnffokjpgalaaGreat
