/- Words and rules that are of no one layer: int's arithmetic, min and max, rows of pairs of ints, rows that the call may write. -/
import Derived.Test.YtpaojgfmffkodaaGreatChecked
import Derived.Test.YtpaojgfmffkodaaGreatLSl
import Derived.Lib.Hide
import Derived.Outline
import Derived.WalkSpells
import Derived.WalkLawsBesides
import Derived.Deep.LoopGhost
import Derived.Deep.RegionHeld3
import Derived.BigRegion
import Derived.Deep.DeepCutAuto
import Derived.Deep.DrawnRows
import Derived.Deep.RegionLaw
import Derived.Deep.CutBlock
import Derived.Laws.StructEq
import Derived.ChangeKeysEq
namespace Go.Proofs.YtpaojgfmffkodaaGreat
set_option linter.unusedVariables false
set_option linter.unusedSimpArgs false
open Go.RowKit
def i64 (a : Int) : Prop := -9223372036854775808 ≤ a ∧ a ≤ 9223372036854775807
theorem i64.wrap {a : Int} (h : i64 a) : wrap64 a = a := by unfold i64 at h; unfold wrap64; omega
def wadd (a b : Int) : Int := wrap64 (a + b)
def imax (a b : Int) : Int := if a < b then b else a
def imin (a b : Int) : Int := if b < a then b else a
theorem imax_eq (a b : Int) : imax a b = max a b := by unfold imax; split <;> omega
theorem imin_eq (a b : Int) : imin a b = min a b := by unfold imin; split <;> omega
@[go_sem ↓] theorem run_max_i {P : Program} (w : World) (ts : Array TypeId) (t : TypeId) (k k' : IntKind) (x y : Int) : (Builtin.max_ ts t #[.int k x, .int k' y]).run P w = .ok (.int k (imax x y)) w := run_max_int2 w ts t k k' x y
@[go_sem ↓] theorem run_min_i {P : Program} (w : World) (ts : Array TypeId) (t : TypeId) (k k' : IntKind) (x y : Int) : (Builtin.min_ ts t #[.int k x, .int k' y]).run P w = .ok (.int k (imin x y)) w := run_min_int2 w ts t k k' x y
def eqv (a b c d : Int) : Bool := a == c && b == d
@[go_sem] theorem eqv_self (a b : Int) : eqv a b a b = true := by simp [eqv]
def encV (p : Int × Int) : List Value := [.int .i64 p.1, .int .i64 p.2]
theorem encV_len (p : Int × Int) : (encV p).length = 2 := rfl
theorem encV_one (p : Int × Int) : ∀ u ∈ encV p, u.oneCell' = true := by
  intro u hu; simp [encV] at hu; rcases hu with rfl | rfl <;> rfl
theorem RowAt.v0 {w : World} {g off : Nat} {l : List (Int × Int)} (h : RowAt encV 2 w g off l) (i : Nat) (hi : i < l.length) : w.cell? ⟨g, off + i * 2, none⟩ = some (.int .i64 l[i].1) := by
  have := h.cells i hi 0 (.int .i64 l[i].1) rfl; simpa using this
theorem RowAt.v1 {w : World} {g off : Nat} {l : List (Int × Int)} (h : RowAt encV 2 w g off l) (i : Nat) (hi : i < l.length) : w.cell? ⟨g, off + i * 2 + 1, none⟩ = some (.int .i64 l[i].2) :=
  h.cells i hi 1 (.int .i64 l[i].2) rfl
abbrev vv (x y : Int) : Value := .agg #[.int .i64 x, .int .i64 y]
structure Live {α : Type} (enc : α → List Value) (k : Nat) (w : World) (g off : Nat) (l : List α) : Prop where
  row : RowAt enc k w g off l
  free : ∀ j, j < l.length * k → w.frozen? ⟨g, off + j, none⟩ = false
section
variable {α : Type} {enc : α → List Value} {k : Nat} {w w' : World} {g off c : Nat} {l : List α}
theorem Live.isRow (h : Live enc k w g off l) : IsRow enc k w (some ⟨g, off, none⟩) c l := ⟨(by intro h; cases h), .inr ⟨g, off, rfl, h.row⟩⟩
theorem Live.of (h : Live enc k w g off l) (hs : SinceOf w w') : Live enc k w' g off l := by
  refine ⟨h.row.of hs, fun j hj => ?_⟩
  obtain ⟨z, rfl⟩ := hs
  have := h.row.there
  rw [Since.frozen]; exact h.free j hj
theorem Owns.live {base : Nat} {e : TypeId} {A : Option Addr} (hk : ∀ x, (enc x).length = k) (h : Owns enc k base e w A c l) (hn : 0 < l.length) : ∃ g, A = some ⟨g, 0, none⟩ ∧ base ≤ g ∧ Live enc k w g 0 l := by
  have hr := h.isRow hk
  obtain ⟨g', cap, hv, hb, hlt⟩ := World.ownsRow.form h hn
  simp only [Value.slice.injEq, true_and] at hv
  obtain ⟨rfl, rfl⟩ := hv
  obtain ⟨g, off, e1, hr⟩ := hr.at_ hn
  simp only [Option.some.injEq, Addr.mk.injEq, and_true] at e1
  obtain ⟨rfl, rfl⟩ := e1
  refine ⟨g', rfl, hb, hr, fun j _ => ?_⟩
  rw [Nat.zero_add]
  exact World.ownsRow.frozenAt h j
end
theorem grownBy_setCell {w : World} {g : Nat} {p : Addr} (hp : p.block = g) (u : Value) : w.grownBy (w.setCell p u) (some g) :=
  ⟨rfl, rfl, rfl, by simp [World.setCell], fun k _ hk => RowKit.Below.heap_setCell w p u k (fun e => hk (by rw [e, hp]))⟩
theorem Later.grownBy {w : World} (z : Later w) (row : Option Nat) : w.grownBy z.wd row := ⟨z.below.os, z.below.tape, z.below.output, z.below.size, fun i hi _ => z.below.block i hi⟩
theorem Since.grownBy {w : World} (z : Since w) (row : Option Nat) : w.grownBy z.wd row := ⟨z.below.os, z.below.tape, z.below.output, z.below.size, fun i hi _ => z.below.block i hi⟩
theorem Live.set {w : World} {g off : Nat} {l : List (Int × Int)} (h : Live encV 2 w g off l) (i : Nat) (hi : i < l.length) (x y : Int) :
    Live encV 2 ((w.setCell ⟨g, off + i * 2, none⟩ (.int .i64 x)).setCell ⟨g, off + i * 2 + 1, none⟩ (.int .i64 y)) g off (l.set i (x, y)) := by
  have hO := h.row.there
  have c0 := h.row.v0 i hi
  have c1 := h.row.v1 i hi
  refine ⟨⟨fun j hj t u hu => ?_, inferInstance⟩, fun j hj => ?_⟩
  · have hj' : j < l.length := by simpa using hj
    have ht : t < 2 := by
      have := (List.getElem?_eq_some_iff.1 hu).1
      rwa [encV_len] at this
    by_cases e : j = i
    · subst e
      simp only [List.getElem_set_self, encV] at hu
      match t, ht with
      | 0, _ =>
        simp at hu; subst hu
        rw [Nat.add_zero, World.cell?_setCell_other _ _ _ _ (by simp)]
        exact World.cell?_setCell_same _ _ _ c0
      | 1, _ =>
        simp at hu; subst hu
        exact World.cell?_setCell_same (u := .int .i64 l[j].2) _ _ _ (by rw [World.cell?_setCell_other _ _ _ _ (by simp)]; exact c1)
    · rw [List.getElem_set_ne (by omega)] at hu
      rw [World.cell?_setCell_other _ _ _ _ (by intro h; injection h with _ h2 _; omega), World.cell?_setCell_other _ _ _ _ (by intro h; injection h with _ h2 _; omega)]
      exact h.row.cells j hj' t u hu
  · rw [List.length_set] at hj
    simp only [World.frozen?_setCell]
    exact h.free j hj
theorem Live.take {α : Type} {enc : α → List Value} {k : Nat} {w : World} {g off : Nat} {l : List α} (h : Live enc k w g off l) (n : Nat) : Live enc k w g off (l.take n) := by
  refine ⟨⟨fun i hi j u hu => ?_, h.row.there⟩, fun j hj => h.free j (Nat.lt_of_lt_of_le hj (Nat.mul_le_mul_right _ (by rw [List.length_take]; exact Nat.min_le_right _ _)))⟩
  have hi' : i < l.length := by simp at hi; omega
  rw [List.getElem_take] at hu
  exact h.row.cells i hi' j u hu
section
variable {α : Type} {enc : α → List Value} {k : Nat} {w w' : World} {g off c : Nat} {A : Option Addr} {l : List α}
theorem RowAt.grown {row : Option Nat} (h : RowAt enc k w g off l) (hg : w.grownBy w' row) (hne : some g ≠ row) : RowAt enc k w' g off l :=
  ⟨fun i hi j u hu => hg.cell (h.cells i hi j u hu) hne, h.there.elim fun q => ⟨⟨Nat.lt_of_lt_of_le q.lt hg.size⟩⟩⟩
theorem RowAt.take (h : RowAt enc k w g off l) (n : Nat) : RowAt enc k w g off (l.take n) :=
  ⟨fun i hi j u hu => h.cells i (by simp at hi; omega) j u (by simpa using hu), h.there⟩
theorem RowAt.drop (h : RowAt enc k w g off l) (n : Nat) : RowAt enc k w g (off + n * k) (l.drop n) :=
  ⟨fun i hi j u hu => by
    have hi' : n + i < l.length := by simp at hi; omega
    have := h.cells (n + i) hi' j u (by simpa using hu)
    rwa [Nat.add_mul, ← Nat.add_assoc] at this, h.there⟩
theorem IsRow.take (h : IsRow enc k w A c l) (n : Nat) : IsRow enc k w A c (l.take n) := by
  refine ⟨h.1, ?_⟩
  rcases h.2 with rfl | ⟨g, off, e, h⟩
  · exact .inl (by simp)
  · exact .inr ⟨g, off, e, h.take n⟩
theorem IsRow.drop (h : IsRow enc k w A c l) (hlc : l.length ≤ c) (n : Nat) : IsRow enc k w (if c = n then A else Option.map (fun x => x.add (n * k)) A) (c - n) (l.drop n) := by
  by_cases e : c = n
  · rw [if_pos e]
    exact ⟨fun _ => by omega, .inl (List.drop_eq_nil_of_le (by omega))⟩
  · rw [if_neg e]
    refine ⟨fun hA => ?_, ?_⟩
    · have : A = none := by simpa using hA
      have := h.1 this
      omega
    · rcases h.2 with rfl | ⟨g, off, rfl, hr⟩
      · exact .inl (by simp)
      · exact .inr ⟨g, off + n * k, by simp [add_none], hr.drop n⟩
end
theorem Owns.le_cap {α : Type} {enc : α → List Value} {k base : Nat} {e : TypeId} {w : World} {A : Option Addr} {c : Nat} {l : List α} (h : Owns enc k base e w A c l) : l.length ≤ c := by
  obtain ⟨h1, h2⟩ := h
  rcases h2 with ⟨h2, h3⟩ | ⟨g, cap, cur, hv, hb, hg, hn, hm, hs, ht⟩
  · omega
  · simp only [Value.slice.injEq, true_and] at hv
    omega
end Go.Proofs.YtpaojgfmffkodaaGreat
/- Plain law of the calendar: intervals, open times and how many there are. -/
namespace Go.Proofs.YtpaojgfmffkodaaGreat
set_option linter.unusedVariables false
set_option linter.unusedSimpArgs false
def inI (l : List (Int × Int)) (t : Int) : Bool := l.any fun s => decide (s.1 ≤ t) && decide (t < s.2)
def ascI (most : Int) : Int → List (Int × Int) → Bool
  | _, [] => true
  | last, s :: l => decide (last < s.1) && decide (s.1 < s.2) && decide (s.2 ≤ most) && ascI most s.2 l
def openI (P : Int) (S D : List (Int × Int)) (t : Int) : Bool := inI S (t % P) && !inI D t
def cnt (f : Int → Bool) (a : Int) : Nat → Int
  | 0 => 0
  | n + 1 => cnt f a n + (if f (a + n) = true then 1 else 0)
def wholeI : List (Int × Int) → Int
  | [] => 0
  | s :: l => (s.2 - s.1) + wholeI l
def restI (r : Int) : List (Int × Int) → Int
  | [] => 0
  | s :: l => max 0 (min r s.2 - s.1) + restI r l
def shiftedI (P : Int) (S : List (Int × Int)) (t : Int) : Int := t / P * wholeI S + restI (t % P) S
def lostI (P : Int) (S : List (Int × Int)) (a b : Int) : List (Int × Int) → Int
  | [] => 0
  | d :: l => (if max a d.1 < min b d.2 then shiftedI P S (min b d.2) - shiftedI P S (max a d.1) else 0) + lostI P S a b l
def workI (P : Int) (S D : List (Int × Int)) (a b : Int) : Int := shiftedI P S b - shiftedI P S a - lostI P S a b D
theorem inI_cons (s : Int × Int) (l : List (Int × Int)) (t : Int) : inI (s :: l) t = (decide (s.1 ≤ t ∧ t < s.2) || inI l t) := by
  unfold inI; rw [List.any_cons, Bool.decide_and]
theorem inI_nil (t : Int) : inI [] t = false := rfl
theorem ascI_cons {most last : Int} {s : Int × Int} {l : List (Int × Int)} : ascI most last (s :: l) = true ↔ last < s.1 ∧ s.1 < s.2 ∧ s.2 ≤ most ∧ ascI most s.2 l = true := by
  simp [ascI, and_assoc]
theorem inI_ahead {most : Int} : ∀ {l : List (Int × Int)} {last t : Int}, ascI most last l = true → t ≤ last → inI l t = false
  | [], _, _, _, _ => rfl
  | s :: l, last, t, h, ht => by
    rw [ascI_cons] at h
    rw [inI_cons, inI_ahead h.2.2.2 (by omega)]
    simp; omega
theorem ascI_unique {m1 m2 : Int} : ∀ {l m : List (Int × Int)} {a b : Int}, ascI m1 a l = true → ascI m2 b m = true → (∀ t, inI l t = inI m t) → l = m
  | [], [], _, _, _, _, _ => rfl
  | [], u :: m, _, _, _, h2, he => by
    rw [ascI_cons] at h2
    have := he u.1
    rw [inI_nil, inI_cons] at this
    simp at this; omega
  | s :: l, [], _, _, h1, _, he => by
    rw [ascI_cons] at h1
    have := he s.1
    rw [inI_nil, inI_cons] at this
    simp at this; omega
  | s :: l, u :: m, a, b, h1, h2, he => by
    have g1 := h1; have g2 := h2
    rw [ascI_cons] at h1 h2
    obtain ⟨_, hs, _, hl⟩ := h1
    obtain ⟨_, hu, _, hm⟩ := h2
    have lead : ∀ {s u : Int × Int} {l m : List (Int × Int)} {m1 m2 : Int}, s.1 < s.2 → u.1 < u.2 → ascI m1 s.2 l = true → ascI m2 u.2 m = true → (∀ t, inI (s :: l) t = inI (u :: m) t) → u.1 ≤ s.1 := by
      intro s u l m m1 m2 hs hu hl hm he
      rcases Int.lt_or_le s.1 u.1 with hlt | hge
      · have := he s.1
        rw [inI_cons, inI_cons, inI_ahead hm (by omega), show decide (s.1 ≤ s.1 ∧ s.1 < s.2) = true from by simp; omega, show decide (u.1 ≤ s.1 ∧ s.1 < u.2) = false from by simp; omega] at this
        cases this
      · exact hge
    have e1 : s.1 = u.1 := Int.le_antisymm (lead hu hs hm hl (fun t => (he t).symm)) (lead hs hu hl hm he)
    have tail : ∀ {s u : Int × Int} {l m : List (Int × Int)} {m1 m2 : Int}, s.1 = u.1 → s.1 < s.2 → u.1 < u.2 → ascI m1 s.2 l = true → ascI m2 u.2 m = true → (∀ t, inI (s :: l) t = inI (u :: m) t) → u.2 ≤ s.2 := by
      intro s u l m m1 m2 e hs hu hl hm he
      rcases Int.lt_or_le s.2 u.2 with hlt | hge
      · have := he s.2
        rw [inI_cons, inI_cons, inI_ahead hl (by omega), show decide (s.1 ≤ s.2 ∧ s.2 < s.2) = false from by simp, show decide (u.1 ≤ s.2 ∧ s.2 < u.2) = true from by simp; omega] at this
        cases this
      · exact hge
    have e2 : s.2 = u.2 := Int.le_antisymm (tail e1.symm hu hs hm hl (fun t => (he t).symm)) (tail e1 hs hu hl hm he)
    have es : s = u := Prod.ext e1 e2
    subst es
    have he' : ∀ t, inI l t = inI m t := by
      intro t
      rcases Int.lt_or_le s.2 t with hlt | hge
      · have := he t
        rw [inI_cons, inI_cons] at this
        have hd : decide (s.1 ≤ t ∧ t < s.2) = false := by simp; omega
        rwa [hd, Bool.false_or, Bool.false_or] at this
      · rw [inI_ahead hl hge, inI_ahead hm hge]
    rw [ascI_unique hl hm he']
theorem cnt_add (f : Int → Bool) (a : Int) (m : Nat) : ∀ n, cnt f a (m + n) = cnt f a m + cnt f (a + m) n
  | 0 => by simp [cnt]
  | n + 1 => by
    rw [← Nat.add_assoc]; simp only [cnt]; rw [cnt_add f a m n, show a + ↑(m + n) = a + ↑m + ↑n from by omega]; omega
theorem cnt_bounds (f : Int → Bool) (a : Int) : ∀ n, 0 ≤ cnt f a n ∧ cnt f a n ≤ n
  | 0 => by simp [cnt]
  | n + 1 => by have := cnt_bounds f a n; simp only [cnt]; split <;> omega
theorem cnt_mono (f : Int → Bool) (a : Int) (m n : Nat) (h : m ≤ n) : cnt f a m ≤ cnt f a n := by
  obtain ⟨k, rfl⟩ := Nat.exists_eq_add_of_le h
  rw [cnt_add]; have := cnt_bounds f (a + m) k; omega
theorem cnt_congr {f g : Int → Bool} {a : Int} : ∀ {n : Nat}, (∀ i : Nat, i < n → f (a + i) = g (a + i)) → cnt f a n = cnt g a n
  | 0, _ => rfl
  | n + 1, h => by simp only [cnt]; rw [cnt_congr (fun i hi => h i (by omega)), h n (by omega)]
theorem cnt_zero {f : Int → Bool} {a : Int} {n : Nat} : cnt f a n = 0 ↔ ∀ i : Nat, i < n → f (a + i) = false := by
  induction n with
  | zero => simp [cnt]
  | succ n ih =>
    have hb := cnt_bounds f a n
    simp only [cnt]
    by_cases hf : f (a + n) = true
    · rw [if_pos hf]
      constructor
      · intro h; omega
      · intro h; rw [h n (by omega)] at hf; cases hf
    · rw [if_neg hf, Int.add_zero, ih]
      constructor
      · intro h i hi
        rcases Nat.lt_succ_iff_lt_or_eq.1 hi with hlt | rfl
        · exact h i hlt
        · simpa using hf
      · intro h i hi; exact h i (by omega)
theorem restI_nonneg (r : Int) : ∀ l, 0 ≤ restI r l
  | [] => Int.le_refl _
  | s :: l => by have := restI_nonneg r l; simp only [restI]; omega
theorem restI_succ {most : Int} (r : Int) : ∀ {l : List (Int × Int)} {last : Int}, ascI most last l = true → restI (r + 1) l = restI r l + (if inI l r = true then 1 else 0)
  | [], _, _ => rfl
  | s :: l, last, h => by
    rw [ascI_cons] at h
    obtain ⟨_, h2, _, hl⟩ := h
    have ih := restI_succ r hl
    simp only [restI]
    rw [ih, inI_cons]
    by_cases hin : s.1 ≤ r ∧ r < s.2
    · rw [inI_ahead hl (by omega)]
      simp [hin]; omega
    · simp only [hin, decide_false, Bool.false_or]; omega
theorem restI_start {most : Int} (r : Int) : ∀ {l : List (Int × Int)} {last : Int}, ascI most last l = true → r ≤ last + 1 → restI r l = 0
  | [], _, _, _ => rfl
  | s :: l, last, h, hr => by
    rw [ascI_cons] at h
    obtain ⟨_, h2, _, hl⟩ := h
    simp only [restI]
    rw [restI_start r hl (by omega)]; omega
theorem restI_whole {most : Int} (r : Int) (hr : most ≤ r) : ∀ {l : List (Int × Int)} {last : Int}, ascI most last l = true → restI r l = wholeI l
  | [], _, _ => rfl
  | s :: l, last, h => by
    rw [ascI_cons] at h
    obtain ⟨_, h2, _, hl⟩ := h
    simp only [restI, wholeI]
    rw [restI_whole r hr hl]; omega
theorem wholeI_nonneg {most : Int} : ∀ {l : List (Int × Int)} {last : Int}, ascI most last l = true → 0 ≤ wholeI l
  | [], _, _ => Int.le_refl _
  | s :: l, last, h => by rw [ascI_cons] at h; have := wholeI_nonneg h.2.2.2; simp only [wholeI]; omega
theorem wholeI_le {most : Int} : ∀ {l : List (Int × Int)} {last : Int}, ascI most last l = true → last ≤ most → wholeI l ≤ most - last
  | [], _, _, hm => by simp only [wholeI]; omega
  | s :: l, last, h, hm => by rw [ascI_cons] at h; have := wholeI_le h.2.2.2 h.2.2.1; simp only [wholeI]; omega
theorem mod_step {P t : Int} (hP : 1 ≤ P) : (t % P + 1 < P ∧ (t + 1) % P = t % P + 1 ∧ (t + 1) / P = t / P) ∨ (t % P + 1 = P ∧ (t + 1) % P = 0 ∧ (t + 1) / P = t / P + 1) := by
  have h1 := Int.emod_nonneg t (show P ≠ 0 by omega)
  have h2 := Int.emod_lt_of_pos t (show 0 < P by omega)
  have h3 := Int.mul_ediv_add_emod t P
  by_cases hlt : t % P + 1 < P
  · left
    have := (Int.ediv_emod_unique (a := t + 1) (b := P) (r := t % P + 1) (q := t / P) (by omega)).2 ⟨by omega, by omega, hlt⟩
    exact ⟨hlt, this.2, this.1⟩
  · right
    have := (Int.ediv_emod_unique (a := t + 1) (b := P) (r := 0) (q := t / P + 1) (by omega)).2 ⟨by rw [Int.mul_add]; omega, by omega, by omega⟩
    exact ⟨by omega, this.2, this.1⟩
theorem shiftedI_succ {P : Int} {S : List (Int × Int)} (hP : 1 ≤ P) (hS : ascI P (-1) S = true) (t : Int) : shiftedI P S (t + 1) = shiftedI P S t + (if inI S (t % P) = true then 1 else 0) := by
  unfold shiftedI
  have hs := restI_succ (t % P) hS
  rcases mod_step (t := t) hP with ⟨_, e1, e2⟩ | ⟨h, e1, e2⟩
  · rw [e1, e2, hs]; omega
  · rw [e1, e2, restI_start 0 hS (by omega), Int.add_mul]
    rw [h, restI_whole P (Int.le_refl _) hS] at hs
    omega
theorem lostI_succ {P : Int} {S : List (Int × Int)} (hP : 1 ≤ P) (hS : ascI P (-1) S = true) {most : Int} (a b : Int) (hab : a ≤ b) : ∀ {D : List (Int × Int)} {last : Int}, ascI most last D = true →
    lostI P S a (b + 1) D = lostI P S a b D + (if inI D b = true then (if inI S (b % P) = true then 1 else 0) else 0)
  | [], _, _ => by simp [lostI, inI_nil]
  | d :: D, last, h => by
    rw [ascI_cons] at h
    obtain ⟨_, h2, _, hl⟩ := h
    have ih := lostI_succ hP hS a b hab hl
    have hs := shiftedI_succ hP hS b
    simp only [lostI]
    rw [ih, inI_cons]
    by_cases hin : d.1 ≤ b ∧ b < d.2
    · rw [inI_ahead hl (by omega), show min (b + 1) d.2 = b + 1 from by omega, show min b d.2 = b from by omega, if_pos (show max a d.1 < b + 1 by omega)]
      simp only [hin, and_self, decide_true, Bool.or_false, if_true]
      by_cases hm : max a d.1 < b
      · rw [if_pos hm, hs]; simp; omega
      · rw [if_neg hm, show max a d.1 = b from by omega, hs]; simp; omega
    · simp only [hin, decide_false, Bool.false_or]
      rcases Int.lt_or_le b d.1 with hlt | hge
      · rw [if_neg (show ¬ max a d.1 < min (b + 1) d.2 by omega), if_neg (show ¬ max a d.1 < min b d.2 by omega)]; omega
      · rw [show min (b + 1) d.2 = min b d.2 from by omega]; omega
theorem workI_cnt {P : Int} {S D : List (Int × Int)} {most last : Int} (hP : 1 ≤ P) (hS : ascI P (-1) S = true) (hD : ascI most last D = true) (a : Int) : ∀ n : Nat, workI P S D a (a + n) = cnt (openI P S D) a n
  | 0 => by
    have z : ∀ D, lostI P S a a D = 0 := by
      intro D
      induction D with
      | nil => rfl
      | cons d D ih => simp only [lostI]; rw [ih]; split <;> omega
    simp [workI, cnt, z]
  | n + 1 => by
    have ih := workI_cnt hP hS hD a n
    have h1 := shiftedI_succ hP hS (a + n)
    have h2 := lostI_succ hP hS a (a + n) (by omega) hD
    simp only [cnt]
    rw [← ih]
    unfold workI at *
    rw [show a + ((n + 1 : Nat) : Int) = a + n + 1 from by omega, h1, h2]
    unfold openI
    cases inI S ((a + n) % P) <;> cases inI D (a + n) <;> simp <;> omega
def least (p : Nat → Bool) : Nat → Nat
  | 0 => 0
  | n + 1 => if least p n < n then least p n else if p n = true then n else n + 1
theorem least_spec (p : Nat → Bool) : ∀ n, least p n ≤ n ∧ (∀ i, i < least p n → p i = false) ∧ (least p n < n → p (least p n) = true)
  | 0 => ⟨Nat.le_refl _, (by intro i hi; exact absurd hi (Nat.not_lt_zero _)), (by intro h; exact absurd h (Nat.not_lt_zero _))⟩
  | n + 1 => by
    obtain ⟨h1, h2, h3⟩ := least_spec p n
    simp only [least]
    by_cases hlt : least p n < n
    · rw [if_pos hlt]; exact ⟨by omega, h2, fun _ => h3 hlt⟩
    · have e : least p n = n := by omega
      rw [if_neg hlt]
      rw [e] at h2
      by_cases hp : p n = true
      · rw [if_pos hp]; exact ⟨by omega, h2, fun _ => hp⟩
      · rw [if_neg hp]
        refine ⟨Nat.le_refl _, fun i hi => ?_, fun h => absurd h (Nat.lt_irrefl _)⟩
        rcases Nat.lt_succ_iff_lt_or_eq.1 hi with h | rfl
        · exact h2 i h
        · simpa using hp
theorem least_is {p : Nat → Bool} {n m : Nat} (h1 : m ≤ n) (h2 : ∀ i, i < m → p i = false) (h3 : m < n → p m = true) : least p n = m := by
  obtain ⟨k1, k2, k3⟩ := least_spec p n
  rcases Nat.lt_trichotomy (least p n) m with h | h | h
  · have a := h2 _ h
    rw [k3 (by omega)] at a; cases a
  · exact h
  · have a := k2 _ h
    rw [h3 (by omega)] at a; cases a
theorem least_count {p : Nat → Bool} {n : Nat} (hm : ∀ a b, a ≤ b → b < n → p a = true → p b = true) : (List.range n).countP (fun i => !p i) = least p n := by
  obtain ⟨k1, k2, k3⟩ := least_spec p n
  generalize least p n = m at *
  obtain ⟨k, rfl⟩ := Nat.exists_eq_add_of_le k1
  rw [List.range_add, List.countP_append]
  have e1 : (List.range m).countP (fun i => !p i) = m := by
    have := List.countP_eq_length (p := fun i => !p i) (l := List.range m)
    rw [List.length_range] at this
    exact this.2 (fun i hi => by rw [k2 i (by simpa using hi)]; rfl)
  have e2 : (List.map (fun x => m + x) (List.range k)).countP (fun i => !p i) = 0 := by
    rw [List.countP_eq_zero]
    intro i hi
    simp only [List.mem_map, List.mem_range] at hi
    obtain ⟨j, hj, rfl⟩ := hi
    rw [hm m (m + j) (by omega) (by omega) (k3 (by omega))]; simp
  omega
theorem least_open (f : Int → Bool) (t : Int) (n : Nat) : least (fun i => decide (0 < cnt f t (i + 1))) n = least (fun i => f (t + i)) n := by
  obtain ⟨k1, k2, k3⟩ := least_spec (fun i => f (t + i)) n
  generalize least (fun i => f (t + i)) n = m at *
  refine least_is k1 (fun i hi => ?_) (fun hlt => ?_)
  · have : cnt f t (i + 1) = 0 := cnt_zero.2 (fun j hj => k2 j (by omega))
    simp [this]
  · have h := k3 hlt
    have hb := cnt_bounds f t m
    have e : cnt f t (m + 1) = cnt f t m + 1 := by
      show cnt f t m + (if f (t + m) = true then 1 else 0) = _
      rw [if_pos h]
    rw [e]; simp; omega
end Go.Proofs.YtpaojgfmffkodaaGreat
/- Plain law of the calendar: closings that are merged, and the greatest intervals of open times. -/
namespace Go.Proofs.YtpaojgfmffkodaaGreat
set_option linter.unusedVariables false
set_option linter.unusedSimpArgs false
def endI : Int → List (Int × Int) → Int
  | last, [] => last
  | _, s :: l => endI s.2 l
theorem ascI_append {most : Int} : ∀ {l : List (Int × Int)} {last : Int} {m : List (Int × Int)}, ascI most last (l ++ m) = true ↔ ascI most last l = true ∧ ascI most (endI last l) m = true
  | [], _, _ => by simp [ascI, endI]
  | s :: l, last, m => by
    rw [List.cons_append, ascI_cons, ascI_cons, ascI_append (l := l)]
    simp only [endI, and_assoc]
theorem ascI_snoc {most last : Int} {l : List (Int × Int)} {e : Int × Int} : ascI most last (l ++ [e]) = true ↔ ascI most last l = true ∧ endI last l < e.1 ∧ e.1 < e.2 ∧ e.2 ≤ most := by
  rw [ascI_append, ascI_cons]; simp [ascI]
theorem endI_append : ∀ (l : List (Int × Int)) (last : Int) (m : List (Int × Int)), endI last (l ++ m) = endI (endI last l) m
  | [], _, _ => rfl
  | s :: l, _, m => by rw [List.cons_append]; simp only [endI]; rw [endI_append l]
theorem endI_snoc (l : List (Int × Int)) (last : Int) (e : Int × Int) : endI last (l ++ [e]) = e.2 := by rw [endI_append]; rfl
theorem inI_append (l m : List (Int × Int)) (t : Int) : inI (l ++ m) t = (inI l t || inI m t) := by unfold inI; rw [List.any_append]
theorem inI_snoc (l : List (Int × Int)) (e : Int × Int) (t : Int) : inI (l ++ [e]) t = (inI l t || decide (e.1 ≤ t ∧ t < e.2)) := by rw [inI_append, inI_cons, inI_nil, Bool.or_false]
theorem inI_perm {l m : List (Int × Int)} (h : l.Perm m) (t : Int) : inI l t = inI m t := by
  unfold inI; rw [Bool.eq_iff_iff, List.any_eq_true, List.any_eq_true]
  constructor
  · rintro ⟨x, hx, hp⟩; exact ⟨x, h.mem_iff.1 hx, hp⟩
  · rintro ⟨x, hx, hp⟩; exact ⟨x, h.mem_iff.2 hx, hp⟩
theorem set_last (l : List (Int × Int)) (e x : Int × Int) : (l ++ [e]).set ((l ++ [e]).length - 1) x = l ++ [x] := by
  rw [List.length_append, List.length_singleton, Nat.add_sub_cancel, List.set_append_right _ _ (Nat.le_refl _), Nat.sub_self]; rfl
theorem getD_last (l : List (Int × Int)) (e d : Int × Int) : (l ++ [e]).getD ((l ++ [e]).length - 1) d = e := by
  rw [List.length_append, List.length_singleton, Nat.add_sub_cancel, List.getD_eq_getElem?_getD, List.getElem?_append_right (Nat.le_refl _), Nat.sub_self]; rfl
def mergeI (out : List (Int × Int)) (d : Int × Int) : List (Int × Int) :=
  if 0 < out.length ∧ d.1 ≤ (out.getD (out.length - 1) (0, 0)).2 then out.set (out.length - 1) ((out.getD (out.length - 1) (0, 0)).1, max (out.getD (out.length - 1) (0, 0)).2 d.2) else out ++ [d]
def startI : Int → List (Int × Int) → Int
  | last, [] => last
  | _, s :: l => startI s.1 l
theorem startI_snoc : ∀ (l : List (Int × Int)) (last : Int) (e : Int × Int), startI last (l ++ [e]) = e.1
  | [], _, _ => rfl
  | s :: l, _, e => by rw [List.cons_append]; exact startI_snoc l s.1 e
theorem mergeI_ok {most : Int} {out : List (Int × Int)} {d : Int × Int} (h : ascI most (-1) out = true) (h0 : startI 0 out ≤ d.1) (h1 : 0 ≤ d.1) (h2 : d.1 < d.2) (h3 : d.2 ≤ most) :
    ascI most (-1) (mergeI out d) = true ∧ startI 0 (mergeI out d) ≤ d.1 ∧ ∀ t, inI (mergeI out d) t = inI (out ++ [d]) t := by
  unfold mergeI
  rcases List.eq_nil_or_concat out with rfl | ⟨l, e, rfl⟩
  · simp only [List.length_nil, Nat.lt_irrefl, false_and, if_false, List.nil_append]
    exact ⟨by rw [ascI_cons]; exact ⟨by omega, h2, h3, rfl⟩, Int.le_refl _, fun _ => trivial⟩
  · rw [List.concat_eq_append] at *
    rw [getD_last, set_last]
    rw [startI_snoc] at h0
    have h4 := ascI_snoc.1 h
    by_cases he : d.1 ≤ e.2
    · rw [if_pos ⟨by simp, he⟩]
      refine ⟨ascI_snoc.2 ⟨h4.1, h4.2.1, by simp only; omega, by simp only; omega⟩, by rw [startI_snoc]; exact h0, fun t => ?_⟩
      rw [inI_snoc, inI_snoc, inI_snoc, Bool.or_assoc]; congr 1
      rw [Bool.eq_iff_iff]; simp; omega
    · rw [if_neg (by intro h; exact he h.2)]
      exact ⟨ascI_snoc.2 ⟨h, by rw [endI_snoc]; omega, h2, h3⟩, by rw [startI_snoc]; exact Int.le_refl _, fun _ => rfl⟩
theorem merged_ok {most : Int} : ∀ {l out : List (Int × Int)}, ascI most (-1) out = true → (∀ d ∈ l, startI 0 out ≤ d.1 ∧ 0 ≤ d.1 ∧ d.1 < d.2 ∧ d.2 ≤ most) → l.Pairwise (fun a b => a.1 ≤ b.1) →
    ascI most (-1) (l.foldl mergeI out) = true ∧ ∀ t, inI (l.foldl mergeI out) t = inI (out ++ l) t
  | [], out, h, _, _ => ⟨h, fun t => by rw [List.append_nil]; rfl⟩
  | d :: l, out, h, hd, hs => by
    rw [List.pairwise_cons] at hs
    obtain ⟨k1, k2, k3, k4⟩ := hd d (by simp)
    obtain ⟨m1, m2, m3⟩ := mergeI_ok h k1 k2 k3 k4
    obtain ⟨r1, r2⟩ := merged_ok (l := l) m1 (fun x hx => ⟨Int.le_trans m2 (hs.1 x hx), (hd x (List.mem_cons_of_mem _ hx)).2⟩) hs.2
    refine ⟨r1, fun t => ?_⟩
    rw [List.foldl_cons, r2, inI_append, m3, inI_append, inI_append, inI_cons, inI_cons, inI_nil, Bool.or_false, Bool.or_assoc]
section
variable {most lo hi a b : Int} {D out : List (Int × Int)} {x : Int × Int}
end
end Go.Proofs.YtpaojgfmffkodaaGreat
/- Contracts of the calendar's leaves: ascending, Valid, time, in, open, shifted; and the reference's. -/
namespace Go.Proofs.YtpaojgfmffkodaaGreat
set_option linter.unusedVariables false
set_option linter.unusedSimpArgs false
open Go.RowKit
theorem equalIn_pair (w : World) (a b c d : Int) : (Op.equalIn 10000 80 (vv a b) (vv c d)).run Tryz.prog w = .ok (eqv a b c d) w := by
  have c3 : Tryz.prog.cellsOf 3 = 1 := by kernel_rfl
  obtain ⟨i, hi⟩ : ∃ i, Tryz.prog.info? 3 = some i := Option.isSome_iff_exists.1 (by kernel_rfl)
  rw [show (10000 : Nat) = 9999 + 1 from rfl, run_equalIn_array w 9999 _ _ Tryz.underlying80 hi, c3]
  have a3 := Tryz.isAgg3
  have z3 := Tryz.sizeOf3
  have u3 := Tryz.underlying3
  simp only [List.range, List.range.loop, Op.eqItems]
  go_simp
  by_cases h1 : a = c <;> by_cases h2 : b = d <;> simp [h1, h2, eqv]
@[go_sem ↓] theorem eql_pair (w : World) (a b c d : Int) : (binOp .eql 80 (vv a b) (vv c d)).run Tryz.prog w = .ok (.bool (eqv a b c d)) w := by
  rw [run_eql_struct, equalIn_pair]; rfl
@[go_sem ↓] theorem neq_pair (w : World) (a b c d : Int) : (binOp .neq 80 (vv a b) (vv c d)).run Tryz.prog w = .ok (.bool (!eqv a b c d)) w := by
  rw [run_neq_struct, equalIn_pair]; rfl
@[go_sem ↓] theorem eqGuard_pair (w : World) (op : BinOp) (x y : Operand) (a b c d : Int) : (eqGuard op 80 x y (vv a b) (vv c d)).run Tryz.prog w = .ok () w :=
  run_eqGuard_agg w op _ x y _ _ (by kernel_rfl)
abbrev IsIvs (w : World) (A : Option Addr) (c : Nat) (l : List (Int × Int)) : Prop := IsRow encV 2 w A c l
def spansB (most : Int) (l : List (Int × Int)) : Bool := ascI most (-1) l && decide ((l.length : Int) ≤ 20)
theorem ascI_step {most last s0 s1 : Int} {l : List (Int × Int)} {k : Nat} (hk : k < l.length) (hs : (s0, s1) = l[k]) (h1 : last < s0) (h2 : s0 < s1) (h3 : s1 ≤ most) : ascI most last (l.drop k) = ascI most s1 (l.drop (k + 1)) := by
  rw [List.drop_eq_getElem_cons hk, ← hs]; simp [ascI, h1, h2, h3]
theorem ascI_fails {most last s0 s1 : Int} {l : List (Int × Int)} {k : Nat} (hk : k < l.length) (hs : (s0, s1) = l[k]) (h : ¬ (last < s0 ∧ s0 < s1 ∧ s1 ≤ most)) : ascI most last (l.drop k) = false := by
  rw [List.drop_eq_getElem_cons hk, ← hs, Bool.eq_false_iff, ne_eq, ascI_cons]
  intro g; exact h ⟨g.1, g.2.1, g.2.2.1⟩
set_option maxHeartbeats 400000 in
theorem ascending_any (A : Option Addr) (c : Nat) (l : List (Int × Int)) (most : Int) (w : World) (hl : IsIvs w A c l) (hn : l.length < 4611686018427387904) :
    Gives Tryz.prog 146 #[.slice A l.length c, .int .i64 most] w (.bool (spansB most l)) := by
  apply Gives.ret
  have H := Lib.hid hl
  clear hl
  go_enter Tryz.func146, Tryz.ntmps146
  go_wp2
  go_loopg [5, 10] l.length (fun n s5 s10 wr => ∃ (k : Nat) (last : Int), k ≤ l.length ∧ l.length - k ≤ n ∧ s5 = .int .i64 last ∧ s10 = .int .i64 k ∧ LaterOf w wr ∧ ascI most (-1) l = ascI most last (l.drop k))
  case atStart => exact ⟨0, -1, by omega, by omega, rfl, rfl, Lx, by simp⟩
  case round =>
    obtain ⟨k, last, hk, hg, rfl, rfl, ⟨z, rfl⟩, heq⟩ := hrel
    have E := Lib.hid heq
    clear heq
    by_cases hlt : k < l.length
    · obtain ⟨g, off, rfl, hr⟩ := (H.out.later z).at_ (by omega)
      have hO := hr.there
      have c0 := hr.v0 k hlt
      have c1 := hr.v1 k hlt
      clear hr
      obtain ⟨⟨s0, s1⟩, hs⟩ : ∃ q, q = l[k] := ⟨_, rfl⟩
      rw [← hs] at c0 c1
      have HS := Lib.hid hs
      clear hs
      simp only at c0 c1
      by_cases hc : last < s0 ∧ s0 < s1 ∧ s1 ≤ most
      · obtain ⟨h1, h2, h3⟩ := hc
        go_wp2_with fail
        go_roundg (l.length - (k + 1))
        case measure => omega
        case rel => exact ⟨k + 1, s1, hlt, Nat.le_refl _, rfl, by go_num, Lx, by rw [E.out, ascI_step hlt HS.out h1 h2 h3]⟩
      · have hno : spansB most l = false := by unfold spansB; rw [E.out, ascI_fails hlt HS.out hc]; rfl
        have HN := Lib.hid hno
        clear hno
        have hc3 : (¬ last < s0) ∨ (last < s0 ∧ ¬ s0 < s1) ∨ (last < s0 ∧ s0 < s1 ∧ ¬ s1 ≤ most) := by omega
        rcases hc3 with h1 | ⟨h1, h2⟩ | ⟨h1, h2, h3⟩
        all_goals
          clear hc
          go_wp2_with fail
          go_returns
          rw [HN.out]
          exact ⟨rfl, Lx⟩
    · have hkl : k = l.length := by omega
      have hyes : spansB most l = decide ((l.length : Int) ≤ 20) := by unfold spansB; rw [E.out, hkl, List.drop_length]; rfl
      have HY := Lib.hid hyes
      clear hyes
      go_wp2_with fail
      go_returns
      rw [HY.out]
      exact ⟨rfl, Lx⟩
set_option maxHeartbeats 1000000 in
theorem refRising_any (A : Option Addr) (c : Nat) (l : List (Int × Int)) (most : Int) (w : World) (hl : IsIvs w A c l) (hn : l.length < 4611686018427387904) :
    Gives Tryz.prog 152 #[.slice A l.length c, .int .i64 most] w (.bool (spansB most l)) := by
  apply Gives.ret
  have H := Lib.hid hl
  clear hl
  go_enter Tryz.func152, Tryz.ntmps152
  go_wp2
  go_loopg [5] l.length (fun n s5 wr => ∃ (k : Nat) (last : Int), k ≤ l.length ∧ l.length - k ≤ n ∧ s5 = .int .i64 k ∧ LaterOf w wr ∧ ascI most (-1) l = ascI most last (l.drop k) ∧ (k = 0 → last = -1) ∧ (0 < k → ∃ s0, l[k - 1]? = some (s0, last)) ∧ -1 ≤ last)
  case atStart => exact ⟨0, -1, by omega, by omega, rfl, Lx, by simp, fun _ => rfl, fun h => absurd h (Nat.lt_irrefl _), Int.le_refl _⟩
  case round =>
    obtain ⟨k, last, hk, hg, rfl, ⟨z, rfl⟩, heq, hl0, hl1, hl2⟩ := hrel
    have E := Lib.hid heq
    clear heq
    by_cases hlt : k < l.length
    · obtain ⟨g, off, rfl, hr⟩ := (H.out.later z).at_ (by omega)
      have hO := hr.there
      have c0 := hr.v0 k hlt
      have c1 := hr.v1 k hlt
      obtain ⟨⟨s0, s1⟩, hs⟩ : ∃ q, q = l[k] := ⟨_, rfl⟩
      rw [← hs] at c0 c1
      have HS := Lib.hid hs
      clear hs
      simp only at c0 c1
      have hkc : (0 < k ∧ last ≤ last) ∨ (k = 0 ∧ last = -1) := by
        rcases Nat.eq_zero_or_pos k with h | h
        · exact .inr ⟨h, hl0 h⟩
        · exact .inl ⟨h, by omega⟩
      rcases hkc with ⟨hk0, -⟩ | ⟨hk0, rfl⟩
      · have p1 := hr.v1 (k - 1) (by omega)
        obtain ⟨q, hq⟩ := hl1 hk0
        rw [List.getElem?_eq_getElem (by omega)] at hq
        have hq := Option.some.inj hq
        rw [hq] at p1
        clear hr hl0 hl1 hq
        simp only at p1
        have kp : decide (0 < (k : Int)) = true := by simp; omega
        have key : ((decide (s0 < 0) = true ∨ (decide (s0 < 0) = false ∧ decide (s1 ≤ s0) = true) ∨ (decide (s0 < 0) = false ∧ decide (s1 ≤ s0) = false ∧ decide (most < s1) = true) ∨ (decide (s0 < 0) = false ∧ decide (s1 ≤ s0) = false ∧ decide (most < s1) = false ∧ decide (s0 ≤ last) = true)) ∧ ¬ (last < s0 ∧ s0 < s1 ∧ s1 ≤ most)) ∨
            (decide (s0 < 0) = false ∧ decide (s1 ≤ s0) = false ∧ decide (most < s1) = false ∧ decide (s0 ≤ last) = false ∧ last < s0 ∧ s0 < s1 ∧ s1 ≤ most) := by
          simp only [decide_eq_true_eq, decide_eq_false_iff_not]; omega
        rcases key with ⟨hw, hno⟩ | ⟨b1, b2, b3, b4, g1, g2, g3⟩
        · have hno : spansB most l = false := by unfold spansB; rw [E.out, ascI_fails hlt HS.out hno]; rfl
          have HN := Lib.hid hno
          clear hno
          rcases hw with b1 | ⟨b1, b2⟩ | ⟨b1, b2, b3⟩ | ⟨b1, b2, b3, b4⟩
          all_goals
            go_wp2_with fail
            refine region_later (by kernel_rfl) (by kernel_rfl) ?_
            repeat (go_big_quiet_step (fail))
            refine wpQuiet_nil ?_
            rintro _ ⟨z2, rfl⟩
            go_wp2_with fail
            go_returns
            rw [HN.out]
            exact ⟨rfl, Lx⟩
        · go_wp2_with fail
          refine region_later (by kernel_rfl) (by kernel_rfl) ?_
          repeat (go_big_quiet_step (fail))
          refine wpQuiet_nil ?_
          rintro _ ⟨z2, rfl⟩
          go_wp2_with fail
          go_roundg (l.length - (k + 1))
          case measure => omega
          case rel => exact ⟨k + 1, s1, hlt, Nat.le_refl _, by go_num, Lx, by rw [E.out, ascI_step hlt HS.out g1 g2 g3], fun h => absurd h (by omega), fun _ => ⟨s0, by rw [Nat.add_sub_cancel, List.getElem?_eq_getElem hlt, HS.out]⟩, by omega⟩
      · have kp : decide (0 < k) = false := by simp; omega
        clear hr hl0 hl1 hk0
        have key : ((decide (s0 < 0) = true ∨ (decide (s0 < 0) = false ∧ decide (s1 ≤ s0) = true) ∨ (decide (s0 < 0) = false ∧ decide (s1 ≤ s0) = false ∧ decide (most < s1) = true)) ∧ ¬ (-1 < s0 ∧ s0 < s1 ∧ s1 ≤ most)) ∨
            (decide (s0 < 0) = false ∧ decide (s1 ≤ s0) = false ∧ decide (most < s1) = false ∧ -1 < s0 ∧ s0 < s1 ∧ s1 ≤ most) := by
          simp only [decide_eq_true_eq, decide_eq_false_iff_not]; omega
        rcases key with ⟨hw, hno⟩ | ⟨b1, b2, b3, g1, g2, g3⟩
        · have hno : spansB most l = false := by unfold spansB; rw [E.out, ascI_fails hlt HS.out hno]; rfl
          have HN := Lib.hid hno
          clear hno
          rcases hw with b1 | ⟨b1, b2⟩ | ⟨b1, b2, b3⟩
          all_goals
            go_wp2_with fail
            refine region_later (by kernel_rfl) (by kernel_rfl) ?_
            repeat (go_big_quiet_step (fail))
            refine wpQuiet_nil ?_
            rintro _ ⟨z2, rfl⟩
            go_wp2_with fail
            go_returns
            rw [HN.out]
            exact ⟨rfl, Lx⟩
        · go_wp2_with fail
          refine region_later (by kernel_rfl) (by kernel_rfl) ?_
          repeat (go_big_quiet_step (fail))
          refine wpQuiet_nil ?_
          rintro _ ⟨z2, rfl⟩
          go_wp2_with fail
          go_roundg (l.length - (k + 1))
          case measure => omega
          case rel => exact ⟨k + 1, s1, hlt, Nat.le_refl _, by go_num, Lx, by rw [E.out, ascI_step hlt HS.out g1 g2 g3], fun h => absurd h (by omega), fun _ => ⟨s0, by rw [Nat.add_sub_cancel, List.getElem?_eq_getElem hlt, HS.out]⟩, by omega⟩
    · have hkl : k = l.length := by omega
      have hyes : spansB most l = decide ((l.length : Int) ≤ 20) := by unfold spansB; rw [E.out, hkl, List.drop_length]; rfl
      have HY := Lib.hid hyes
      clear hyes
      clear hl0 hl1 hl2
      go_wp2_with fail
      go_returns
      rw [HY.out]
      exact ⟨rfl, Lx⟩
abbrev CalV (P : Int) (A : Option Addr) (n c : Nat) (B : Option Addr) (m d : Nat) : Value := .agg #[.int .i64 P, .slice A n c, .slice B m d]
def validB (P : Int) (S D : List (Int × Int)) : Bool := decide (1 ≤ P) && decide (P ≤ 10000) && spansB P S && spansB 1000000 D
theorem valid_any (P : Int) (A B : Option Addr) (c d : Nat) (S D : List (Int × Int)) (w : World) (hS : IsIvs w A c S) (hD : IsIvs w B d D) (hn : S.length < 4611686018427387904) (hm : D.length < 4611686018427387904) :
    Gives Tryz.prog 106 #[CalV P A S.length c B D.length d] w (.bool (validB P S D)) := by
  apply Gives.ret
  have key : (¬ 1 ≤ P ∧ validB P S D = false) ∨ (1 ≤ P ∧ ¬ P ≤ 10000 ∧ validB P S D = false) ∨ (1 ≤ P ∧ P ≤ 10000 ∧ spansB P S = false ∧ validB P S D = false) ∨ (1 ≤ P ∧ P ≤ 10000 ∧ spansB P S = true ∧ validB P S D = spansB 1000000 D) := by
    unfold validB
    by_cases h1 : 1 ≤ P <;> by_cases h2 : P ≤ 10000 <;> cases spansB P S <;> simp [h1, h2]
  have H := Lib.hid (And.intro hS hD)
  clear hS hD
  rcases key with ⟨h1, e⟩ | ⟨h1, h2, e⟩ | ⟨h1, h2, h3, e⟩ | ⟨h1, h2, h3, e⟩
  · rw [e]; clear e
    go_enter Tryz.func106, Tryz.ntmps106
    go_wp2_with fail
    go_returns
    exact ⟨rfl, Lx⟩
  · rw [e]; clear e
    go_enter Tryz.func106, Tryz.ntmps106
    go_wp2_with fail
    go_returns
    exact ⟨rfl, Lx⟩
  · rw [e]; clear e
    go_enter Tryz.func106, Tryz.ntmps106
    go_wp2_with fail
    refine (ascending_any A c S _ _ (H.out.1.of ((SinceOf.refl w).alloc _)) hn).calls.mono ?_
    rintro e _ ⟨rfl, x1, rfl⟩
    go_wp2_with fail
    go_returns
    exact ⟨rfl, Lx⟩
  · rw [e]; clear e
    go_enter Tryz.func106, Tryz.ntmps106
    go_wp2_with fail
    refine (ascending_any A c S _ _ (H.out.1.of ((SinceOf.refl w).alloc _)) hn).calls.mono ?_
    rintro e _ ⟨rfl, x1, rfl⟩
    go_wp2_with fail
    refine (ascending_any B d D _ _ (H.out.2.of (((SinceOf.refl w).alloc _).later x1)) hm).calls.mono ?_
    rintro e _ ⟨rfl, x2, rfl⟩
    go_wp2_with fail
    go_returns
    exact ⟨rfl, Lx⟩
theorem refValid_any (P : Int) (A B : Option Addr) (c d : Nat) (S D : List (Int × Int)) (w : World) (hS : IsIvs w A c S) (hD : IsIvs w B d D) (hn : S.length < 4611686018427387904) (hm : D.length < 4611686018427387904) :
    Gives Tryz.prog 119 #[CalV P A S.length c B D.length d] w (.bool (validB P S D)) := by
  apply Gives.ret
  have key : (¬ 1 ≤ P ∧ validB P S D = false) ∨ (1 ≤ P ∧ ¬ P ≤ 10000 ∧ validB P S D = false) ∨ (1 ≤ P ∧ P ≤ 10000 ∧ spansB P S = false ∧ validB P S D = false) ∨ (1 ≤ P ∧ P ≤ 10000 ∧ spansB P S = true ∧ validB P S D = spansB 1000000 D) := by
    unfold validB
    by_cases h1 : 1 ≤ P <;> by_cases h2 : P ≤ 10000 <;> cases spansB P S <;> simp [h1, h2]
  have H := Lib.hid (And.intro hS hD)
  clear hS hD
  rcases key with ⟨h1, e⟩ | ⟨h1, h2, e⟩ | ⟨h1, h2, h3, e⟩ | ⟨h1, h2, h3, e⟩
  · rw [e]; clear e
    go_enter Tryz.func119, Tryz.ntmps119
    go_wp2_with fail
    go_returns
    exact ⟨rfl, Lx⟩
  · rw [e]; clear e
    go_enter Tryz.func119, Tryz.ntmps119
    go_wp2_with fail
    go_returns
    exact ⟨rfl, Lx⟩
  · rw [e]; clear e
    go_enter Tryz.func119, Tryz.ntmps119
    go_wp2_with fail
    refine (refRising_any A c S _ _ (H.out.1.of ((SinceOf.refl w).alloc _)) hn).calls.mono ?_
    rintro e _ ⟨rfl, x1, rfl⟩
    go_wp2_with fail
    go_returns
    exact ⟨rfl, Lx⟩
  · rw [e]; clear e
    go_enter Tryz.func119, Tryz.ntmps119
    go_wp2_with fail
    refine (refRising_any A c S _ _ (H.out.1.of ((SinceOf.refl w).alloc _)) hn).calls.mono ?_
    rintro e _ ⟨rfl, x1, rfl⟩
    go_wp2_with fail
    refine (refRising_any B d D _ _ (H.out.2.of (((SinceOf.refl w).alloc _).later x1)) hm).calls.mono ?_
    rintro e _ ⟨rfl, x2, rfl⟩
    go_wp2_with fail
    go_returns
    exact ⟨rfl, Lx⟩
def timeB (t : Int) : Bool := decide (0 ≤ t) && decide (t ≤ 1000000)
theorem time_any (t : Int) (w : World) : Calls Tryz.prog 71 #[.int .i64 t] w fun e w' => e = .returned (.bool (timeB t)) ∧ w = w' := by
  have key : (¬ 0 ≤ t ∧ timeB t = false) ∨ (0 ≤ t ∧ ¬ t ≤ 1000000 ∧ timeB t = false) ∨ (0 ≤ t ∧ t ≤ 1000000 ∧ timeB t = true) := by
    unfold timeB
    by_cases h1 : 0 ≤ t <;> by_cases h2 : t ≤ 1000000 <;> simp [h1, h2]
  rcases key with ⟨h1, e⟩ | ⟨h1, h2, e⟩ | ⟨h1, h2, e⟩ <;> rw [e] <;> clear e <;> go_enter Tryz.func71, Tryz.ntmps71 <;> go_wp2 <;> go_returns <;> exact ⟨rfl, rfl⟩
set_option maxHeartbeats 1000000 in
theorem refIn_any (A : Option Addr) (c : Nat) (l : List (Int × Int)) (t : Int) (w : World) (hl : IsIvs w A c l) (hn : l.length < 4611686018427387904) :
    Gives Tryz.prog 122 #[.slice A l.length c, .int .i64 t] w (.bool (inI l t)) := by
  apply Gives.ret
  have H := Lib.hid hl
  clear hl
  go_enter Tryz.func122, Tryz.ntmps122
  go_wp2
  go_loopg [5] l.length (fun n s5 wr => ∃ (k : Nat), k ≤ l.length ∧ l.length - k ≤ n ∧ s5 = .int .i64 k ∧ LaterOf w wr ∧ inI l t = inI (l.drop k) t)
  case atStart => exact ⟨0, by omega, by omega, rfl, Lx, by simp⟩
  case round =>
    obtain ⟨k, hk, hg, rfl, ⟨z, rfl⟩, heq⟩ := hrel
    have E := Lib.hid heq
    clear heq
    by_cases hlt : k < l.length
    · obtain ⟨g, off, rfl, hr⟩ := (H.out.later z).at_ (by omega)
      have hO := hr.there
      have c0 := hr.v0 k hlt
      have c1 := hr.v1 k hlt
      clear hr
      obtain ⟨⟨s0, s1⟩, hs⟩ : ∃ q, q = l[k] := ⟨_, rfl⟩
      rw [← hs] at c0 c1
      have hst : inI (l.drop k) t = (decide (s0 ≤ t ∧ t < s1) || inI (l.drop (k + 1)) t) := by rw [List.drop_eq_getElem_cons hlt, ← hs, inI_cons]
      have HS := Lib.hid hst
      clear hs hst
      simp only at c0 c1
      have key : (decide (s0 ≤ t) = true ∧ decide (t < s1) = true ∧ decide (s0 ≤ t ∧ t < s1) = true) ∨ (decide (s0 ≤ t) = false ∧ decide (s0 ≤ t ∧ t < s1) = false) ∨ (decide (s0 ≤ t) = true ∧ decide (t < s1) = false ∧ decide (s0 ≤ t ∧ t < s1) = false) := by
        simp only [decide_eq_true_eq, decide_eq_false_iff_not]; omega
      rcases key with ⟨b1, b2, e⟩ | ⟨b1, e⟩ | ⟨b1, b2, e⟩
      · have hyes : inI l t = true := by rw [E.out, HS.out, e]; rfl
        have HY := Lib.hid hyes
        clear hyes e
        go_wp2_with fail
        go_returns
        rw [HY.out]
        exact ⟨rfl, Lx⟩
      all_goals
        have HE := Lib.hid e
        clear e
        go_wp2_with fail
        go_roundg (l.length - (k + 1))
        case measure => omega
        case rel => exact ⟨k + 1, hlt, Nat.le_refl _, by go_num, Lx, by rw [E.out, HS.out, HE.out, Bool.false_or]⟩
    · have hno : inI l t = false := by rw [E.out, show k = l.length from by omega, List.drop_length]; rfl
      have HN := Lib.hid hno
      clear hno
      go_wp2_with fail
      go_returns
      rw [HN.out]
      exact ⟨rfl, Lx⟩
end Go.Proofs.YtpaojgfmffkodaaGreat
/- Contracts of the calendar: the reference's open; shifted, work. -/
namespace Go.Proofs.YtpaojgfmffkodaaGreat
set_option linter.unusedVariables false
set_option linter.unusedSimpArgs false
open Go.RowKit
theorem refOpen_any (P t : Int) (A B : Option Addr) (c d : Nat) (S D : List (Int × Int)) (w : World) (hS : IsIvs w A c S) (hD : IsIvs w B d D) (hn : S.length < 4611686018427387904) (hm : D.length < 4611686018427387904) (hP : 1 ≤ P) (hP2 : P ≤ 10000) (h0 : 0 ≤ t) (h1 : t ≤ 2000000) :
    Gives Tryz.prog 84 #[CalV P A S.length c B D.length d, .int .i64 t] w (.bool (openI P S D t)) := by
  apply Gives.ret
  unfold openI
  have C2 : ∀ x : Later (w.alloc (.cells #[.int .i64 P, .slice A S.length c, .slice B D.length d] 103)), Gives Tryz.prog 122 #[.slice B D.length d, .int .i64 t] x.wd (.bool (inI D t)) := fun x => refIn_any B d D t x.wd ((hD.of ((SinceOf.refl w).alloc _)).later x) hm
  have C1 : ∀ x : Later (w.alloc (.cells #[.int .i64 P, .slice A S.length c, .slice B D.length d] 103)), Gives Tryz.prog 122 #[.slice A S.length c, .int .i64 (t % P)] x.wd (.bool (inI S (t % P))) := fun x => refIn_any A c S _ x.wd ((hS.of ((SinceOf.refl w).alloc _)).later x) hn
  clear hS hD
  cases hi : inI S (t % P)
  · rw [hi] at C1
    clear hi
    go_enter Tryz.func84, Tryz.ntmps84
    go_wp2_with fail
    refine region_later (by kernel_rfl) (by kernel_rfl) ?_
    repeat (go_big_quiet_step (exact Gives.later (C1 _)))
    refine wpQuiet_nil ?_
    rintro _ ⟨z2, rfl⟩
    go_wp2_with fail
    go_returns
    exact ⟨rfl, Lx⟩
  · rw [hi] at C1
    clear hi
    go_enter Tryz.func84, Tryz.ntmps84
    go_wp2_with fail
    refine region_later (by kernel_rfl) (by kernel_rfl) ?_
    repeat (go_big_quiet_step ((first | (with_reducible exact Gives.later (C1 _)) | (with_reducible exact Gives.later (C2 _)))))
    refine wpQuiet_nil ?_
    rintro _ ⟨z2, rfl⟩
    go_wp2_with fail
    go_returns
    exact ⟨rfl, Lx⟩
theorem restI_le (r : Int) {most : Int} : ∀ {l : List (Int × Int)} {last : Int}, ascI most last l = true → restI r l ≤ wholeI l
  | [], _, _ => Int.le_refl _
  | s :: l, last, h => by
    rw [ascI_cons] at h
    have := restI_le r h.2.2.2
    simp only [restI, wholeI]; omega
theorem int_eq {k : IntKind} {a b : Int} (h : a = b) : Value.int k a = Value.int k b := by rw [h]
theorem ret_int {k : IntKind} {a b : Int} (h : a = b) : Ending.returned (.int k a) = .returned (.int k b) := by rw [h]
set_option maxHeartbeats 1000000 in
theorem shifted_any (P t : Int) (A B : Option Addr) (c d n : Nat) (S : List (Int × Int)) (w : World) (hS : IsIvs w A c S) (hn : S.length < 4611686018427387904) (hP : 1 ≤ P) (hP2 : P ≤ 10000) (h0 : 0 ≤ t) (h1 : t ≤ 2000000) (ha : ascI P (-1) S = true) :
    Gives Tryz.prog 107 #[CalV P A S.length c B n d, .int .i64 t] w (.int .i64 (shiftedI P S t)) := by
  apply Gives.ret
  have hw1 := wholeI_le ha (by omega)
  have hw0 := wholeI_nonneg ha
  have hr1 := restI_le (t % P) ha
  have hr0 := restI_nonneg (t % P) S
  have hq0 : 0 ≤ t / P := Int.ediv_nonneg h0 (by omega)
  have hq1 : t / P ≤ 2000000 := Int.le_trans (Int.ediv_le_self P h0) h1
  have hm0 := Int.emod_nonneg t (show P ≠ 0 by omega)
  have hm1 := Int.emod_lt_of_pos t (show 0 < P by omega)
  have H := Lib.hid (And.intro hS ha)
  clear hS ha
  go_enter Tryz.func107, Tryz.ntmps107
  go_wp2
  go_loopg [5, 6, 12] S.length (fun m s5 s6 s12 wr => ∃ (k : Nat) (last x y : Int), k ≤ S.length ∧ S.length - k ≤ m ∧ s5 = .int .i64 x ∧ s6 = .int .i64 y ∧ s12 = .int .i64 k ∧ LaterOf (w.alloc (.cells #[.int .i64 P, .slice A S.length c, .slice B n d] 83)) wr ∧
    0 ≤ x ∧ 0 ≤ y ∧ x + wholeI (S.drop k) = wholeI S ∧ y + restI (t % P) (S.drop k) = restI (t % P) S ∧ ascI P last (S.drop k) = true ∧ -1 ≤ last)
  case atStart => exact ⟨0, -1, 0, 0, by omega, by omega, rfl, rfl, rfl, Lx, Int.le_refl _, Int.le_refl _, by simp, by simp, H.out.2, Int.le_refl _⟩
  case round =>
    obtain ⟨k, last, x, y, hk, hg, rfl, rfl, rfl, ⟨z, rfl⟩, hx, hy, ex, ey, hasc, hla⟩ := hrel
    have E := Lib.hid (And.intro ex (And.intro ey hasc))
    have hxw := wholeI_nonneg hasc
    have hyr := restI_nonneg (t % P) (S.drop k)
    have hxb : x ≤ 10001 := by omega
    have hyb : y ≤ 10001 := by omega
    clear ex ey hxw hyr
    by_cases hlt : k < S.length
    · obtain ⟨g, off, rfl, hr⟩ := ((H.out.1.of ((SinceOf.refl w).alloc _)).later z).at_ (by omega)
      have hO := hr.there
      have c0 := hr.v0 k hlt
      have c1 := hr.v1 k hlt
      clear hr
      obtain ⟨⟨s0, s1⟩, hs⟩ : ∃ q, q = S[k] := ⟨_, rfl⟩
      rw [← hs] at c0 c1
      have hst : S.drop k = (s0, s1) :: S.drop (k + 1) := by rw [List.drop_eq_getElem_cons hlt, ← hs]
      have hstep := hasc
      rw [hst, ascI_cons] at hstep
      have HS := Lib.hid (And.intro hst hstep)
      have hlo : 0 ≤ s0 ∧ s0 < s1 ∧ s1 ≤ P := ⟨by omega, hstep.2.1, hstep.2.2.1⟩
      obtain ⟨hl0, hl1, hl2⟩ := hlo
      clear hs hst hstep hasc
      simp only at c0 c1
      go_wp2_with fail
      refine region_later (by kernel_rfl) (by kernel_rfl) ?_
      repeat (go_big_quiet_step (fail))
      refine wpQuiet_nil ?_
      rintro _ ⟨z2, rfl⟩
      go_wp2_with fail
      go_roundg (S.length - (k + 1))
      case measure => omega
      case rel =>
        obtain ⟨e1, e2, e3⟩ := E.out
        obtain ⟨f1, f2⟩ := HS.out
        rw [f1] at e1 e2
        simp only [wholeI, restI] at e1 e2
        exact ⟨k + 1, s1, x + (s1 - s0), y + max 0 (min (t % P) s1 - s0), hlt, Nat.le_refl _, rfl, int_eq (by rw [imax_eq, imin_eq]; unfold wrap64; omega), by go_num, Lx, by omega, by omega, by omega, by omega, f2.2.2.2, by omega⟩
    · obtain ⟨e1, e2, -⟩ := E.out
      rw [show k = S.length from by omega, List.drop_length] at e1 e2
      simp only [wholeI, restI, Int.add_zero] at e1 e2
      have hm : t / P * x ≤ 2000000 * 10001 := Int.mul_le_mul hq1 hxb hx (by omega)
      have hm2 : 0 ≤ t / P * x := Int.mul_nonneg hq0 hx
      have HE := Lib.hid (And.intro e1 (And.intro e2 (And.intro hm hm2)))
      clear e1 e2 hm hm2
      go_wp2_with fail
      go_returns
      obtain ⟨e1, e2, hm, hm2⟩ := HE.out
      refine ⟨ret_int ?_, Lx⟩
      unfold shiftedI
      rw [← e1, ← e2]
      generalize t / P * x = m at *
      unfold wrap64; omega
theorem workI_bounds {P : Int} {S D : List (Int × Int)} {most last : Int} (hP : 1 ≤ P) (hS : ascI P (-1) S = true) (hD : ascI most last D = true) {a b : Int} (hab : a ≤ b) : 0 ≤ workI P S D a b ∧ workI P S D a b ≤ b - a := by
  obtain ⟨n, hn⟩ := Int.eq_ofNat_of_zero_le (show 0 ≤ b - a by omega)
  obtain rfl : b = a + n := by omega
  rw [workI_cnt hP hS hD]
  have := cnt_bounds (openI P S D) a n
  omega
set_option maxHeartbeats 2000000 in
theorem work_any (P a b : Int) (A B : Option Addr) (c d : Nat) (S D : List (Int × Int)) (w : World) (hS : IsIvs w A c S) (hD : IsIvs w B d D) (hn : S.length < 4611686018427387904) (hm : D.length < 4611686018427387904) (hP : 1 ≤ P) (hP2 : P ≤ 10000)
    (h0 : 0 ≤ a) (h1 : a ≤ b) (h2 : b ≤ 2000000) (haS : ascI P (-1) S = true) (haD : ascI 1000000 (-1) D = true) :
    Gives Tryz.prog 74 #[CalV P A S.length c B D.length d, .int .i64 a, .int .i64 b] w (.int .i64 (workI P S D a b)) := by
  apply Gives.ret
  have C1 : ∀ W, SinceOf w W → ∀ t, 0 ≤ t → t ≤ 2000000 → Gives Tryz.prog 107 #[CalV P A S.length c B D.length d, .int .i64 t] W (.int .i64 (shiftedI P S t)) :=
    fun W hW t g0 g1 => shifted_any P t A B c d D.length S W (hS.of hW) hn hP hP2 g0 g1 haS
  have hb := workI_bounds hP haS haD h1
  have H := Lib.hid (And.intro hD (And.intro haD hb))
  clear hS hD haS haD hb
  go_enter Tryz.func74, Tryz.ntmps74
  go_wp2_with fail
  refine region_later (by kernel_rfl) (by kernel_rfl) ?_
  repeat (go_big_quiet_step ((first | (with_reducible exact Gives.later (C1 _ Sx a (by omega) (by omega))) | (with_reducible exact Gives.later (C1 _ Sx b (by omega) (by omega))))))
  refine wpQuiet_nil ?_
  rintro _ ⟨x1, rfl⟩
  go_wp2_with fail
  go_loopg [7, 22] D.length (fun m s7 s22 wr => ∃ (k : Nat) (last x : Int), k ≤ D.length ∧ D.length - k ≤ m ∧ s7 = .int .i64 x ∧ s22 = .int .i64 k ∧ LaterOf x1.wd wr ∧ x = wrap64 (workI P S D a b + lostI P S a b (D.drop k)) ∧ ascI 1000000 last (D.drop k) = true ∧ -1 ≤ last)
  case atStart => exact ⟨0, -1, _, by omega, by omega, rfl, rfl, Lx, by unfold workI; rw [List.drop_zero]; congr 1; omega, H.out.2.1, Int.le_refl _⟩
  case round =>
    obtain ⟨k, last, x, hk, hg, rfl, rfl, ⟨z, rfl⟩, hx, hasc, hla⟩ := hrel
    have E := Lib.hid (And.intro hx hasc)
    clear hx
    by_cases hlt : k < D.length
    · obtain ⟨g, off, rfl, hr⟩ := (((H.out.1.of ((SinceOf.refl w).alloc _)).later x1).later z).at_ (by omega)
      have hO := hr.there
      have c0 := hr.v0 k hlt
      have c1 := hr.v1 k hlt
      clear hr
      obtain ⟨⟨d0, d1⟩, hs⟩ : ∃ q, q = D[k] := ⟨_, rfl⟩
      rw [← hs] at c0 c1
      have hst : D.drop k = (d0, d1) :: D.drop (k + 1) := by rw [List.drop_eq_getElem_cons hlt, ← hs]
      have hstep := hasc
      rw [hst, ascI_cons] at hstep
      have HS := Lib.hid (And.intro hst hstep)
      have hlo : 0 ≤ d0 ∧ d0 < d1 ∧ d1 ≤ 1000000 := ⟨by omega, hstep.2.1, hstep.2.2.1⟩
      obtain ⟨hl0, hl1, hl2⟩ := hlo
      clear hs hst hstep hasc
      simp only at c0 c1
      have m0 : 0 ≤ imax a d0 ∧ imax a d0 ≤ 2000000 := by rw [imax_eq]; omega
      have m1 : 0 ≤ imin b d1 ∧ imin b d1 ≤ 2000000 := by rw [imin_eq]; omega
      obtain ⟨m0, m2⟩ := m0
      obtain ⟨m1, m3⟩ := m1
      by_cases hcut : imax a d0 < imin b d1
      · go_wp2_with fail
        refine region_later (by kernel_rfl) (by kernel_rfl) ?_
        repeat (go_big_quiet_step (fail))
        refine wpQuiet_nil ?_
        rintro _ ⟨z2, rfl⟩
        go_wp2_with fail
        refine region_later (by kernel_rfl) (by kernel_rfl) ?_
        repeat (go_big_quiet_step ((first | (with_reducible exact Gives.later (C1 _ Sx (imax a d0) (by omega) (by omega))) | (with_reducible exact Gives.later (C1 _ Sx (imin b d1) (by omega) (by omega))))))
        refine wpQuiet_nil ?_
        rintro _ ⟨z3, rfl⟩
        go_wp2_with fail
        go_roundg (D.length - (k + 1))
        case measure => omega
        case rel =>
          obtain ⟨f1, f2⟩ := HS.out
          refine ⟨k + 1, d1, _, hlt, Nat.le_refl _, rfl, by go_num, Lx, ?_, f2.2.2.2, by omega⟩
          have e := E.out.1
          rw [f1] at e
          simp only [lostI] at e
          rw [imax_eq, imin_eq] at hcut
          rw [if_pos hcut] at e
          rw [e, imax_eq, imin_eq]
          unfold wrap64; omega
      · go_wp2_with fail
        refine region_later (by kernel_rfl) (by kernel_rfl) ?_
        repeat (go_big_quiet_step (fail))
        refine wpQuiet_nil ?_
        rintro _ ⟨z2, rfl⟩
        go_wp2_with fail
        go_roundg (D.length - (k + 1))
        case measure => omega
        case rel =>
          obtain ⟨f1, f2⟩ := HS.out
          refine ⟨k + 1, d1, _, hlt, Nat.le_refl _, rfl, by go_num, Lx, ?_, f2.2.2.2, by omega⟩
          have e := E.out.1
          rw [f1] at e
          simp only [lostI] at e
          rw [imax_eq, imin_eq] at hcut
          rw [if_neg (by omega), Int.zero_add] at e
          exact e
    · have e := E.out.1
      rw [show k = D.length from by omega, List.drop_length] at e
      simp only [lostI, Int.add_zero] at e
      have HE := Lib.hid e
      clear e
      go_wp2_with fail
      go_returns
      refine ⟨ret_int ?_, Lx⟩
      rw [HE.out]
      have := H.out.2.2
      unfold wrap64; omega
end Go.Proofs.YtpaojgfmffkodaaGreat
