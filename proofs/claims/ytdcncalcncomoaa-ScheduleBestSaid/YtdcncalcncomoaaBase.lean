/- Words and rules that are of no one layer: int's arithmetic, min and max, rows of pairs of ints, rows that the call may write. -/
import Derived.Test.YtdcncalcncomoaaChecked
import Derived.Test.YtdcncalcncomoaaLater
import Derived.Test.YtdcncalcncomoaaSl
import Derived.Lib.Hide
import Derived.Outline
import Derived.WalkSpells
import Derived.WalkLawsBesides
import Derived.Deep.LoopGhost
import Derived.Deep.RegionHeld3
import Derived.BigRegion
import Derived.Deep.DeepCutAuto
import Derived.Deep.DrawnRows
import Derived.Deep.RegionLaw
import Derived.Deep.CutBlock
import Derived.Laws.StructEq
import Derived.ChangeKeysEq
namespace Go.Proofs.Ytdcncalcncomoaa
open Go.RowKit
set_option linter.unusedVariables false

/-- A number that an int holds. -/
def i64 (a : Int) : Prop := -9223372036854775808 ≤ a ∧ a ≤ 9223372036854775807
theorem i64.wrap {a : Int} (h : i64 a) : wrap64 a = a := by unfold i64 at h; unfold wrap64; omega
/-- int's own sums, differences, products: plain names, so that no simplifier spells a slot anew. -/
def wadd (a b : Int) : Int := wrap64 (a + b)
def wsub (a b : Int) : Int := wrap64 (a - b)
def wneg (a : Int) : Int := wrap64 (-a)
def wmul (a b : Int) : Int := wrap64 (a * b)
def imax (a b : Int) : Int := if a < b then b else a
def imin (a b : Int) : Int := if b < a then b else a
theorem imax_eq (a b : Int) : imax a b = max a b := by unfold imax; split <;> omega
theorem imin_eq (a b : Int) : imin a b = min a b := by unfold imin; split <;> omega
@[go_sem ↓] theorem run_max_i {P : Program} (w : World) (ts : Array TypeId) (t : TypeId) (k k' : IntKind) (x y : Int) : (Builtin.max_ ts t #[.int k x, .int k' y]).run P w = .ok (.int k (imax x y)) w := run_max_int2 w ts t k k' x y
@[go_sem ↓] theorem run_min_i {P : Program} (w : World) (ts : Array TypeId) (t : TypeId) (k k' : IntKind) (x y : Int) : (Builtin.min_ ts t #[.int k x, .int k' y]).run P w = .ok (.int k (imin x y)) w := run_min_int2 w ts t k k' x y

/-- Are two pairs one? A plain name: the walk decides it by 'eqv_self', or by a fact of the context. -/
def eqv (a b c d : Int) : Bool := a == c && b == d
@[go_sem] theorem eqv_self (a b : Int) : eqv a b a b = true := by simp [eqv]
theorem eqv_iff {a b c d : Int} : eqv a b c d = true ↔ a = c ∧ b = d := by simp [eqv]
theorem eqv_false {a b c d : Int} (h : ¬ (a = c ∧ b = d)) : eqv a b c d = false := by
  cases h' : eqv a b c d with
  | false => rfl
  | true => exact absurd (eqv_iff.1 h') h

def encV (p : Int × Int) : List Value := [.int .i64 p.1, .int .i64 p.2]
theorem encV_len (p : Int × Int) : (encV p).length = 2 := rfl
theorem encV_one (p : Int × Int) : ∀ u ∈ encV p, u.oneCell' = true := by
  intro u hu; simp [encV] at hu; rcases hu with rfl | rfl <;> rfl
theorem RowAt.v0 {w : World} {g off : Nat} {l : List (Int × Int)} (h : RowAt encV 2 w g off l) (i : Nat) (hi : i < l.length) : w.cell? ⟨g, off + i * 2, none⟩ = some (.int .i64 l[i].1) := by
  have := h.cells i hi 0 (.int .i64 l[i].1) rfl; simpa using this
theorem RowAt.v1 {w : World} {g off : Nat} {l : List (Int × Int)} (h : RowAt encV 2 w g off l) (i : Nat) (hi : i < l.length) : w.cell? ⟨g, off + i * 2 + 1, none⟩ = some (.int .i64 l[i].2) :=
  h.cells i hi 1 (.int .i64 l[i].2) rfl
abbrev vv (x y : Int) : Value := .agg #[.int .i64 x, .int .i64 y]

structure Live {α : Type} (enc : α → List Value) (k : Nat) (w : World) (g off : Nat) (l : List α) : Prop where
  row : RowAt enc k w g off l
  free : ∀ j, j < l.length * k → w.frozen? ⟨g, off + j, none⟩ = false

section
variable {α : Type} {enc : α → List Value} {k : Nat} {w w' : World} {g off c : Nat} {l : List α}
theorem Live.isRow (h : Live enc k w g off l) : IsRow enc k w (some ⟨g, off, none⟩) c l := ⟨(by intro h; cases h), .inr ⟨g, off, rfl, h.row⟩⟩
theorem Live.of (h : Live enc k w g off l) (hs : SinceOf w w') : Live enc k w' g off l := by
  refine ⟨h.row.of hs, fun j hj => ?_⟩
  obtain ⟨z, rfl⟩ := hs
  have := h.row.there
  rw [Since.frozen]; exact h.free j hj
theorem Owns.live {base : Nat} {e : TypeId} {A : Option Addr} (hk : ∀ x, (enc x).length = k) (h : Owns enc k base e w A c l) (hn : 0 < l.length) : ∃ g, A = some ⟨g, 0, none⟩ ∧ base ≤ g ∧ Live enc k w g 0 l := by
  have hr := h.isRow hk
  obtain ⟨g', cap, hv, hb, hlt⟩ := World.ownsRow.form h hn
  simp only [Value.slice.injEq, true_and] at hv
  obtain ⟨rfl, rfl⟩ := hv
  obtain ⟨g, off, e1, hr⟩ := hr.at_ hn
  simp only [Option.some.injEq, Addr.mk.injEq, and_true] at e1
  obtain ⟨rfl, rfl⟩ := e1
  refine ⟨g', rfl, hb, hr, fun j _ => ?_⟩
  rw [Nat.zero_add]
  exact World.ownsRow.frozenAt h j
end


theorem grownBy_setCell {w : World} {g : Nat} {p : Addr} (hp : p.block = g) (u : Value) : w.grownBy (w.setCell p u) (some g) :=
  ⟨rfl, rfl, rfl, by simp [World.setCell], fun k _ hk => RowKit.Below.heap_setCell w p u k (fun e => hk (by rw [e, hp]))⟩
theorem grownBy_setCells (g : Nat) : ∀ (vs : List Value) (o : Nat) (w : World), w.grownBy (w.setCells g o vs) (some g)
  | [], _, w => World.grownBy.refl _ _
  | v :: r, o, w => by
    rw [World.setCells]
    exact (grownBy_setCell (p := ⟨g, o, none⟩) rfl v).trans (grownBy_setCells g r _ _)
theorem Later.grownBy {w : World} (z : Later w) (row : Option Nat) : w.grownBy z.wd row := ⟨z.below.os, z.below.tape, z.below.output, z.below.size, fun i hi _ => z.below.block i hi⟩
theorem Since.grownBy {w : World} (z : Since w) (row : Option Nat) : w.grownBy z.wd row := ⟨z.below.os, z.below.tape, z.below.output, z.below.size, fun i hi _ => z.below.block i hi⟩

/-- 's[i] = x' in a row of vectors. -/
theorem Live.set {w : World} {g off : Nat} {l : List (Int × Int)} (h : Live encV 2 w g off l) (i : Nat) (hi : i < l.length) (x y : Int) :
    Live encV 2 ((w.setCell ⟨g, off + i * 2, none⟩ (.int .i64 x)).setCell ⟨g, off + i * 2 + 1, none⟩ (.int .i64 y)) g off (l.set i (x, y)) := by
  have hO := h.row.there
  have c0 := h.row.v0 i hi
  have c1 := h.row.v1 i hi
  refine ⟨⟨fun j hj t u hu => ?_, inferInstance⟩, fun j hj => ?_⟩
  · have hj' : j < l.length := by simpa using hj
    have ht : t < 2 := by
      have := (List.getElem?_eq_some_iff.1 hu).1
      rwa [encV_len] at this
    by_cases e : j = i
    · subst e
      simp only [List.getElem_set_self, encV] at hu
      match t, ht with
      | 0, _ =>
        simp at hu; subst hu
        rw [Nat.add_zero, World.cell?_setCell_other _ _ _ _ (by simp)]
        exact World.cell?_setCell_same _ _ _ c0
      | 1, _ =>
        simp at hu; subst hu
        exact World.cell?_setCell_same (u := .int .i64 l[j].2) _ _ _ (by rw [World.cell?_setCell_other _ _ _ _ (by simp)]; exact c1)
    · rw [List.getElem_set_ne (by omega)] at hu
      rw [World.cell?_setCell_other _ _ _ _ (by intro h; injection h with _ h2 _; omega), World.cell?_setCell_other _ _ _ _ (by intro h; injection h with _ h2 _; omega)]
      exact h.row.cells j hj' t u hu
  · rw [List.length_set] at hj
    simp only [World.frozen?_setCell]
    exact h.free j hj
theorem Live.take {α : Type} {enc : α → List Value} {k : Nat} {w : World} {g off : Nat} {l : List α} (h : Live enc k w g off l) (n : Nat) : Live enc k w g off (l.take n) := by
  refine ⟨⟨fun i hi j u hu => ?_, h.row.there⟩, fun j hj => h.free j (Nat.lt_of_lt_of_le hj (Nat.mul_le_mul_right _ (by rw [List.length_take]; exact Nat.min_le_right _ _)))⟩
  have hi' : i < l.length := by simp at hi; omega
  rw [List.getElem_take] at hu
  exact h.row.cells i hi' j u hu
/-- Stores behind the row's first elements leave these. -/
theorem Live.behind {α : Type} {enc : α → List Value} {k : Nat} {w : World} {g off : Nat} {l : List α} (hk : ∀ x, (enc x).length = k) (h : Live enc k w g off l) (o : Nat) (ho : off + l.length * k ≤ o) (vs : List Value) : Live enc k (w.setCells g o vs) g off l := by
  refine ⟨⟨fun i hi j u hu => ?_, ?_⟩, fun j hj => ?_⟩
  · rw [World.cell?_setCells_out]
    · exact h.row.cells i hi j u hu
    · intro _ _
      left
      have hj : j < k := by
        have := (List.getElem?_eq_some_iff.1 hu).1
        rwa [hk] at this
      have : i * k + k ≤ l.length * k := by rw [← Nat.succ_mul]; exact Nat.mul_le_mul_right _ hi
      simp only; omega
  · exact h.row.there.elim fun q => ⟨⟨Nat.lt_of_lt_of_le q.lt (grownBy_setCells g vs o w).size⟩⟩
  · rw [World.frozen?_setCells]; exact h.free j hj

section
variable {α : Type} {enc : α → List Value} {k : Nat} {w w' : World} {g off c : Nat} {A : Option Addr} {l : List α}
theorem RowAt.grown {row : Option Nat} (h : RowAt enc k w g off l) (hg : w.grownBy w' row) (hne : some g ≠ row) : RowAt enc k w' g off l :=
  ⟨fun i hi j u hu => hg.cell (h.cells i hi j u hu) hne, h.there.elim fun q => ⟨⟨Nat.lt_of_lt_of_le q.lt hg.size⟩⟩⟩
theorem RowAt.take (h : RowAt enc k w g off l) (n : Nat) : RowAt enc k w g off (l.take n) :=
  ⟨fun i hi j u hu => h.cells i (by simp at hi; omega) j u (by simpa using hu), h.there⟩
theorem RowAt.drop (h : RowAt enc k w g off l) (n : Nat) : RowAt enc k w g (off + n * k) (l.drop n) :=
  ⟨fun i hi j u hu => by
    have hi' : n + i < l.length := by simp at hi; omega
    have := h.cells (n + i) hi' j u (by simpa using hu)
    rwa [Nat.add_mul, ← Nat.add_assoc] at this, h.there⟩
theorem IsRow.take (h : IsRow enc k w A c l) (n : Nat) : IsRow enc k w A c (l.take n) := by
  refine ⟨h.1, ?_⟩
  rcases h.2 with rfl | ⟨g, off, e, h⟩
  · exact .inl (by simp)
  · exact .inr ⟨g, off, e, h.take n⟩
theorem IsRow.drop (h : IsRow enc k w A c l) (hlc : l.length ≤ c) (n : Nat) : IsRow enc k w (if c = n then A else Option.map (fun x => x.add (n * k)) A) (c - n) (l.drop n) := by
  by_cases e : c = n
  · rw [if_pos e]
    exact ⟨fun _ => by omega, .inl (List.drop_eq_nil_of_le (by omega))⟩
  · rw [if_neg e]
    refine ⟨fun hA => ?_, ?_⟩
    · have : A = none := by simpa using hA
      have := h.1 this
      omega
    · rcases h.2 with rfl | ⟨g, off, rfl, hr⟩
      · exact .inl (by simp)
      · exact .inr ⟨g, off + n * k, by simp [add_none], hr.drop n⟩
end
theorem Owns.le_cap {α : Type} {enc : α → List Value} {k base : Nat} {e : TypeId} {w : World} {A : Option Addr} {c : Nat} {l : List α} (h : Owns enc k base e w A c l) : l.length ≤ c := by
  obtain ⟨h1, h2⟩ := h
  rcases h2 with ⟨h2, h3⟩ | ⟨g, cap, cur, hv, hb, hg, hn, hm, hs, ht⟩
  · omega
  · simp only [Value.slice.injEq, true_and] at hv
    omega

end Go.Proofs.Ytdcncalcncomoaa
