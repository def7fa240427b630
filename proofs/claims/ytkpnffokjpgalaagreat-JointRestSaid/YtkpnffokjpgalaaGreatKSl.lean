/- Words of my own for worlds that a call leaves: 'Later w': a world that is w but for new blocks and draws; 'Since w': the same, of the draws nothing is said. -/
import Derived.WalkKit
import Derived.ProofKit
import Derived.Below
import Derived.BigQuiet
import Derived.Handy
import Derived.Deep.RegionHeld3
import Derived.Laws.OwnMore
import Derived.Laws.AppendOwnNone
import Derived.Maps.AppendAt
import Derived.Deep.AppendLies
namespace Go.Proofs.YtkpnffokjpgalaaGreat
set_option linter.unusedVariables false
set_option linter.unusedSimpArgs false
open Go.RowKit

/-- A block that is there; the number of blocks; two numbers that differ. Instance search settles them: 'Nonempty' is the class. -/
structure Old (w : World) (b : Nat) : Prop where
  lt : b < w.heap.size
structure Size (w : World) (b : Nat) : Prop where
  eq : w.heap.size = b
structure Apart (a b : Nat) : Prop where
  ne : a ≠ b

/-- A world that is w but for new blocks (and draws). -/
structure Later (w : World) where
  wd : World
  below : Below w.heap.size w wd
  drawn : w.drawn ≤ wd.drawn
structure Since (w : World) where
  wd : World
  below : Below w.heap.size w wd

theorem Later.size {w : World} (x : Later w) : w.heap.size ≤ x.wd.heap.size := x.below.size
theorem Since.size {w : World} (x : Since w) : w.heap.size ≤ x.wd.heap.size := x.below.size
def Later.refl (w : World) : Later w := ⟨w, Below.refl _ _, Nat.le_refl _⟩
def Since.refl (w : World) : Since w := ⟨w, Below.refl _ _⟩
def Later.trans {w : World} (x : Later w) (y : Later x.wd) : Later w := ⟨y.wd, x.below.trans (y.below.mono x.size), Nat.le_trans x.drawn y.drawn⟩
def Since.trans {w : World} (x : Since w) (y : Since x.wd) : Since w := ⟨y.wd, x.below.trans (y.below.mono x.size)⟩
def Later.since {w : World} (x : Later w) : Since w := ⟨x.wd, x.below⟩

instance later_some (w : World) : Nonempty (Later w) := ⟨Later.refl w⟩
instance since_some (w : World) : Nonempty (Since w) := ⟨Since.refl w⟩
instance size_self (w : World) : Nonempty (Size w w.heap.size) := ⟨⟨rfl⟩⟩
instance size_alloc (w : World) (o : Obj) (n : Nat) [h : Nonempty (Size w n)] : Nonempty (Size (w.alloc o) (n + 1)) := ⟨⟨by obtain ⟨⟨h⟩⟩ := h; simp [h]⟩⟩
instance size_drew (w : World) (n : Nat) [h : Nonempty (Size w n)] : Nonempty (Size w.drew n) := h.elim fun h => ⟨⟨h.eq⟩⟩
instance size_drewN (w : World) (k n : Nat) [h : Nonempty (Size w n)] : Nonempty (Size (w.drewN k) n) := h.elim fun h => ⟨⟨h.eq⟩⟩
instance size_setCell (w : World) (a : Addr) (u : Value) (n : Nat) [h : Nonempty (Size w n)] : Nonempty (Size (w.setCell a u) n) := h.elim fun h => ⟨⟨by simpa [World.setCell] using h.eq⟩⟩
instance old_alloc (w : World) (o : Obj) (n : Nat) [h : Nonempty (Old w n)] : Nonempty (Old (w.alloc o) n) := h.elim fun h => ⟨⟨by have := h.lt; simp; omega⟩⟩
instance old_new (w : World) (o : Obj) (n : Nat) [h : Nonempty (Size w n)] : Nonempty (Old (w.alloc o) n) := h.elim fun h => ⟨⟨by have := h.eq; simp; omega⟩⟩
instance old_drew (w : World) (n : Nat) [h : Nonempty (Old w n)] : Nonempty (Old w.drew n) := h.elim fun h => ⟨⟨h.lt⟩⟩
instance old_drewN (w : World) (k n : Nat) [h : Nonempty (Old w n)] : Nonempty (Old (w.drewN k) n) := h.elim fun h => ⟨⟨h.lt⟩⟩
instance old_setCell (w : World) (a : Addr) (u : Value) (n : Nat) [h : Nonempty (Old w n)] : Nonempty (Old (w.setCell a u) n) := h.elim fun h => ⟨⟨by simpa [World.setCell] using h.lt⟩⟩
instance old_later {w : World} (x : Later w) (n : Nat) [h : Nonempty (Old w n)] : Nonempty (Old x.wd n) := h.elim fun h => ⟨⟨Nat.lt_of_lt_of_le h.lt x.size⟩⟩
instance old_since {w : World} (x : Since w) (n : Nat) [h : Nonempty (Old w n)] : Nonempty (Old x.wd n) := h.elim fun h => ⟨⟨Nat.lt_of_lt_of_le h.lt x.size⟩⟩
instance apart0 (w : World) (n : Nat) [h : Nonempty (Old w n)] : Nonempty (Apart n w.heap.size) := h.elim fun h => ⟨⟨by have := h.lt; omega⟩⟩
instance apart1 (w : World) (n k : Nat) [h : Nonempty (Old w n)] : Nonempty (Apart n (w.heap.size + k)) := h.elim fun h => ⟨⟨by have := h.lt; omega⟩⟩
instance apart2 (w : World) (n k l : Nat) [h : Nonempty (Old w n)] : Nonempty (Apart n (w.heap.size + k + l)) := h.elim fun h => ⟨⟨by have := h.lt; omega⟩⟩
instance apart3 (w : World) (n k l m : Nat) [h : Nonempty (Old w n)] : Nonempty (Apart n (w.heap.size + k + l + m)) := h.elim fun h => ⟨⟨by have := h.lt; omega⟩⟩

section
variable {w : World}
@[go_sem] theorem Later.cell (x : Later w) (n i : Nat) [h : Nonempty (Old w n)] : x.wd.cell? ⟨n, i, none⟩ = w.cell? ⟨n, i, none⟩ := h.elim fun h => x.below.cell h.lt
@[go_sem] theorem Later.frozen (x : Later w) (n i : Nat) [h : Nonempty (Old w n)] : x.wd.frozen? ⟨n, i, none⟩ = w.frozen? ⟨n, i, none⟩ := h.elim fun h => x.below.frozen h.lt
@[go_sem] theorem Since.cell (x : Since w) (n i : Nat) [h : Nonempty (Old w n)] : x.wd.cell? ⟨n, i, none⟩ = w.cell? ⟨n, i, none⟩ := h.elim fun h => x.below.cell h.lt
@[go_sem] theorem Since.frozen (x : Since w) (n i : Nat) [h : Nonempty (Old w n)] : x.wd.frozen? ⟨n, i, none⟩ = w.frozen? ⟨n, i, none⟩ := h.elim fun h => x.below.frozen h.lt
end
@[go_sem] theorem cell_old (w : World) (o : Obj) (n i : Nat) [h : Nonempty (Old w n)] : (w.alloc o).cell? ⟨n, i, none⟩ = w.cell? ⟨n, i, none⟩ := h.elim fun h => World.cell?_alloc_past o n i h.lt
@[go_sem] theorem frozen_old (w : World) (o : Obj) (n i : Nat) [h : Nonempty (Old w n)] : (w.alloc o).frozen? ⟨n, i, none⟩ = w.frozen? ⟨n, i, none⟩ := h.elim fun h => World.frozen?_alloc_past o n i h.lt
@[go_sem] theorem cell_apart (w : World) (g j n i : Nat) (u : Value) [h : Nonempty (Apart n g)] : (w.setCell ⟨g, j, none⟩ u).cell? ⟨n, i, none⟩ = w.cell? ⟨n, i, none⟩ :=
  h.elim fun h => World.cell?_setCell_other w ⟨g, j, none⟩ ⟨n, i, none⟩ u (fun e => h.ne (by injection e with e1; exact e1.symm))

/-- 'w' is a world later than w': closed step by step. -/
def LaterOf (w w' : World) : Prop := ∃ x : Later w, w' = x.wd
def SinceOf (w w' : World) : Prop := ∃ x : Since w, w' = x.wd
section
variable {w a : World}
theorem LaterOf.refl (w : World) : LaterOf w w := ⟨Later.refl w, rfl⟩
theorem LaterOf.alloc (h : LaterOf w a) (o : Obj) : LaterOf w (a.alloc o) := by
  obtain ⟨x, rfl⟩ := h; exact ⟨⟨_, x.below.alloc x.size o, x.drawn⟩, rfl⟩
theorem LaterOf.drew (h : LaterOf w a) : LaterOf w a.drew := by
  obtain ⟨x, rfl⟩ := h; exact ⟨⟨_, x.below.drew, Nat.le_trans x.drawn (Nat.le_succ _)⟩, rfl⟩
theorem LaterOf.drewN (h : LaterOf w a) (n : Nat) : LaterOf w (a.drewN n) := by
  obtain ⟨x, rfl⟩ := h; exact ⟨⟨x.wd.drewN n, ⟨x.below.os, x.below.tape, x.below.output, x.below.size, x.below.block⟩, Nat.le_trans x.drawn (Nat.le_add_right _ _)⟩, rfl⟩
theorem LaterOf.later (h : LaterOf w a) (y : Later a) : LaterOf w y.wd := by
  obtain ⟨x, rfl⟩ := h; exact ⟨x.trans y, rfl⟩
theorem LaterOf.setCell (h : LaterOf w a) {p : Addr} (hp : w.heap.size ≤ p.block) (u : Value) : LaterOf w (a.setCell p u) := by
  obtain ⟨x, rfl⟩ := h; exact ⟨⟨_, x.below.setCell hp u, x.drawn⟩, rfl⟩
theorem LaterOf.size (h : LaterOf w a) : w.heap.size ≤ a.heap.size := by
  obtain ⟨x, rfl⟩ := h; exact x.size
theorem LaterOf.since (h : LaterOf w a) : SinceOf w a := by
  obtain ⟨x, rfl⟩ := h; exact ⟨x.since, rfl⟩
theorem SinceOf.refl (w : World) : SinceOf w w := ⟨Since.refl w, rfl⟩
theorem SinceOf.alloc (h : SinceOf w a) (o : Obj) : SinceOf w (a.alloc o) := by
  obtain ⟨x, rfl⟩ := h; exact ⟨⟨_, x.below.alloc x.size o⟩, rfl⟩
theorem SinceOf.drew (h : SinceOf w a) : SinceOf w a.drew := by
  obtain ⟨x, rfl⟩ := h; exact ⟨⟨_, x.below.drew⟩, rfl⟩
theorem SinceOf.drewN (h : SinceOf w a) (n : Nat) : SinceOf w (a.drewN n) := by
  obtain ⟨x, rfl⟩ := h; exact ⟨⟨x.wd.drewN n, ⟨x.below.os, x.below.tape, x.below.output, x.below.size, x.below.block⟩⟩, rfl⟩
theorem SinceOf.later (h : SinceOf w a) (y : Later a) : SinceOf w y.wd := by
  obtain ⟨x, rfl⟩ := h; exact ⟨x.trans y.since, rfl⟩
theorem SinceOf.trans {b : World} (h : SinceOf w a) (k : SinceOf a b) : SinceOf w b := by
  obtain ⟨x, rfl⟩ := h; obtain ⟨y, rfl⟩ := k; exact ⟨x.trans y, rfl⟩
theorem SinceOf.further (h : SinceOf w a) (y : Since a) : SinceOf w y.wd := by
  obtain ⟨x, rfl⟩ := h; exact ⟨x.trans y, rfl⟩
theorem SinceOf.setCell (h : SinceOf w a) {p : Addr} (hp : w.heap.size ≤ p.block) (u : Value) : SinceOf w (a.setCell p u) := by
  obtain ⟨x, rfl⟩ := h; exact ⟨⟨_, x.below.setCell hp u⟩, rfl⟩
theorem SinceOf.grown {b : World} {row : Option Nat} (h : SinceOf w a) (hg : a.grownBy b row) (hr : ∀ k, row = some k → w.heap.size ≤ k) : SinceOf w b := by
  obtain ⟨x, rfl⟩ := h; exact ⟨⟨_, x.below.grown hg x.size hr⟩, rfl⟩
theorem SinceOf.size (h : SinceOf w a) : w.heap.size ≤ a.heap.size := by
  obtain ⟨x, rfl⟩ := h; exact x.size
theorem SinceOf.below (h : SinceOf w a) : Below w.heap.size w a := by
  obtain ⟨x, rfl⟩ := h; exact x.below
theorem SinceOf.of_below {b : World} (h : Below w.heap.size w b) : SinceOf w b := ⟨⟨b, h⟩, rfl⟩
end

/-- The call gives v, and leaves all that was there as it was. -/
def Gives (P : Program) (f : FuncId) (args : Array Value) (w : World) (v : Value) : Prop := Calls P f args w fun e w' => e = .returned v ∧ LaterOf w w'
theorem Gives.calls {P : Program} {f : FuncId} {args : Array Value} {w : World} {v : Value} (h : Gives P f args w v) : Calls P f args w fun e w' => e = .returned v ∧ ∃ x : Later w, w' = x.wd := h
theorem Gives.ret {P : Program} {f : FuncId} {args : Array Value} {w : World} {v : Value} (h : Calls P f args w fun e w' => e = .returned v ∧ LaterOf w w') : Gives P f args w v := h
/-- .. of the draws nothing is said. -/
def Yields (P : Program) (f : FuncId) (args : Array Value) (w : World) (v : Value) : Prop := Calls P f args w fun e w' => e = .returned v ∧ SinceOf w w'
theorem Yields.calls {P : Program} {f : FuncId} {args : Array Value} {w : World} {v : Value} (h : Yields P f args w v) : Calls P f args w fun e w' => e = .returned v ∧ ∃ x : Since w, w' = x.wd := h
theorem Yields.ret {P : Program} {f : FuncId} {args : Array Value} {w : World} {v : Value} (h : Calls P f args w fun e w' => e = .returned v ∧ SinceOf w w') : Yields P f args w v := h
theorem Gives.yields {P : Program} {f : FuncId} {args : Array Value} {w : World} {v : Value} (h : Gives P f args w v) : Yields P f args w v := Calls.mono h fun _ _ ⟨he, hx⟩ => ⟨he, hx.since⟩

/-- The same, met in a world of the class of a region. -/
theorem Gives.later {P : Program} {f : FuncId} {args : Array Value} {w : World} {x : Later w} {v : Value} (h : Gives P f args x.wd v) :
    Calls P f args x.wd fun e w'' => e = .returned v ∧ ∃ y : Later w, w'' = y.wd :=
  Calls.mono h fun _ _ ⟨he, y, hy⟩ => ⟨he, x.trans y, hy⟩
theorem later_same {P : Program} {f : FuncId} {args : Array Value} {w : World} {x : Later w} {v : Value} (h : Calls P f args x.wd fun e w' => e = .returned v ∧ x.wd = w') :
    Calls P f args x.wd fun e w'' => e = .returned v ∧ ∃ y : Later w, w'' = y.wd :=
  Calls.mono h fun _ _ ⟨he, hy⟩ => ⟨he, x, hy.symm⟩
theorem Yields.since {P : Program} {f : FuncId} {args : Array Value} {w : World} {x : Since w} {v : Value} (h : Yields P f args x.wd v) :
    Calls P f args x.wd fun e w'' => e = .returned v ∧ ∃ y : Since w, w'' = y.wd :=
  Calls.mono h fun _ _ ⟨he, y, hy⟩ => ⟨he, x.trans y, hy⟩

/-- A region that draws its order, whose operations only read and whose calls make new blocks alone: one walk in the order of the text. -/
theorem region_later {P : Program} {id : Nat} {Q : Exit → Act → World → Prop} {a : Act} {w : World} {l : List Oper} (hm : P.follows .mixedOrders = true) (hB : Region.lexB .any l.toArray = true)
    (h : wpQuiet P l.toArray (fun w' => ∃ x : Later w, w' = x.wd) (fun a' => ∀ w', (∃ x : Later w, w' = x.wd) → Q .normal a' w') l a) : (Code.region id l.toArray true).wp P Q a w :=
  wp_region_quiet (C := fun w' => ∃ x : Later w, w' = x.wd) hm hB ⟨⟨{ w with drawn := w.drawn + 1 }, ⟨rfl, rfl, rfl, Nat.le_refl _, fun _ _ => rfl⟩, Nat.le_succ _⟩, rfl⟩ (by simpa using h)
theorem region_since {P : Program} {id : Nat} {Q : Exit → Act → World → Prop} {a : Act} {w : World} {l : List Oper} (hm : P.follows .mixedOrders = true) (hB : Region.lexB .any l.toArray = true)
    (h : wpQuiet P l.toArray (fun w' => ∃ x : Since w, w' = x.wd) (fun a' => ∀ w', (∃ x : Since w, w' = x.wd) → Q .normal a' w') l a) : (Code.region id l.toArray true).wp P Q a w :=
  wp_region_quiet (C := fun w' => ∃ x : Since w, w' = x.wd) hm hB ⟨⟨{ w with drawn := w.drawn + 1 }, ⟨rfl, rfl, rfl, Nat.le_refl _, fun _ _ => rfl⟩⟩, rfl⟩ (by simpa using h)

/-- Block g is a variable of two ints. -/
structure IsVec (w : World) (g : Nat) (x y : Int) : Prop where
  c0 : w.cell? ⟨g, 0, none⟩ = some (.int .i64 x)
  c1 : w.cell? ⟨g, 1, none⟩ = some (.int .i64 y)
  f0 : w.frozen? ⟨g, 0, none⟩ = false
  f1 : w.frozen? ⟨g, 1, none⟩ = false
  there : Nonempty (Old w g)
theorem IsVec.new (w : World) (x y : Int) (t : TypeId) : IsVec (w.alloc (.cells #[.int .i64 x, .int .i64 y] t)) w.heap.size x y :=
  ⟨by simp, by simp, by simp, by simp, inferInstance⟩
theorem IsVec.since {w : World} {g : Nat} {x y : Int} (h : IsVec w g x y) (z : Since w) : IsVec z.wd g x y := by
  have := h.there
  exact ⟨by rw [Since.cell]; exact h.c0, by rw [Since.cell]; exact h.c1, by rw [Since.frozen]; exact h.f0, by rw [Since.frozen]; exact h.f1, inferInstance⟩
theorem IsVec.later {w : World} {g : Nat} {x y : Int} (h : IsVec w g x y) (z : Later w) : IsVec z.wd g x y := h.since z.since
theorem IsVec.set {w : World} {g : Nat} {x y : Int} (h : IsVec w g x y) (a b : Int) : IsVec ((w.setCell ⟨g, 0, none⟩ (.int .i64 a)).setCell ⟨g, 1, none⟩ (.int .i64 b)) g a b := by
  have := h.there
  refine ⟨?_, ?_, ?_, ?_, inferInstance⟩
  · rw [World.cell?_setCell_other _ _ _ _ (by simp)]
    exact World.cell?_setCell_same _ _ _ h.c0
  · exact World.cell?_setCell_same (u := .int .i64 y) _ _ _ (by rw [World.cell?_setCell_other _ _ _ _ (by simp)]; exact h.c1)
  · simpa using h.f0
  · simpa using h.f1

end Go.Proofs.YtkpnffokjpgalaaGreat
/- A region that draws its order, loads cells and stores into them at its end: what must hold of the world is not asked behind the closing stores. -/
namespace Go.Proofs.YtkpnffokjpgalaaGreat
set_option linter.unusedVariables false
set_option linter.unusedSimpArgs false
open Go.RowKit

section
variable {P : Program} {ops : Array Oper} {Q : Exit → Act → World → Prop} {md : Region.Mode} {S : World → Prop} {X : List Nat}
/-- Whatever order is picked, and S holds behind every operation that is not among X. -/
def wpAnyL (P : Program) (md : Region.Mode) (ops : Array Oper) (Q : Exit → Act → World → Prop) (S : World → Prop) (X : List Nat) : Nat → Array Bool → Act → World → Prop
  | 0, listed, a, w => Region.ready md ops listed = [] ∧ Q .normal a w
  | fuel + 1, listed, a, w =>
    (Region.ready md ops listed = [] → Q .normal a w) ∧
    ∀ i ∈ Region.ready md ops listed, wpOp P ops Q i (fun a' w' => (X.contains i = false → S w') ∧ wpAnyL P md ops Q S X fuel (listed.setIfInBounds i true) a' w') a w
theorem wpAny_of_L : ∀ (fuel : Nat) (listed : Array Bool) (a : Act) (w : World), wpAnyL P md ops Q S X fuel listed a w → wpAny P md ops Q fuel listed a w
  | 0, _, _, _, h => h
  | fuel + 1, _, _, _, h => ⟨h.1, fun i hi => wpOp_mono (fun a' w' h' => wpAny_of_L fuel _ a' w' h'.2) (h.2 i hi)⟩
/-- What is listed has all that it waits for listed. -/
def ClosedL (md : Region.Mode) (ops : Array Oper) (listed : Array Bool) : Prop := ∀ (j : Nat) (oj : Oper), ops[j]? = some oj → listed.getD j false = true → ∀ e ∈ oj.after, Region.binds md e = true → listed.getD e.on false = true
def closedB (md : Region.Mode) (ops : Array Oper) (listed : Array Bool) : Bool := (List.range ops.size).all fun j => !listed.getD j false || (match ops[j]? with | none => true | some o => o.after.all fun e => !Region.binds md e || listed.getD e.on false)
theorem closedB_spec {listed : Array Bool} (h : closedB md ops listed = true) : ClosedL md ops listed := by
  intro j oj hj hl e he hb
  unfold closedB at h
  rw [List.all_eq_true] at h
  have hlt : j < ops.size := by
    rcases Nat.lt_or_ge j ops.size with h1 | h1
    · exact h1
    · rw [Array.getElem?_eq_none h1] at hj; cases hj
  have := h j (List.mem_range.2 hlt)
  rw [hl, hj] at this
  simp only [Bool.not_true, Bool.false_or] at this
  rw [Array.all_eq_true'] at this
  have h2 := this e he
  rw [hb] at h2
  simpa using h2
/-- Does operation x wait for operation i? -/
def waitsB (md : Region.Mode) (ops : Array Oper) (i : Nat) : Nat → Nat → Bool
  | 0, _ => false
  | f + 1, x => match ops[x]? with
    | none => false
    | some o => o.after.any fun e => Region.binds md e && (e.on == i || waitsB md ops i f e.on)
theorem waits_listed {i : Nat} {listed : Array Bool} (hc : ClosedL md ops listed) : ∀ (f x : Nat), waitsB md ops i f x = true → (∀ o, ops[x]? = some o → ∀ e ∈ o.after, Region.binds md e = true → listed.getD e.on false = true) → listed.getD i false = true
  | 0, x, h, _ => by cases h
  | f + 1, x, h, hx => by
    unfold waitsB at h
    cases ho : ops[x]? with
    | none => rw [ho] at h; cases h
    | some o =>
      rw [ho] at h
      simp only [Array.any_eq_true'] at h
      obtain ⟨e, he, h2⟩ := h
      rw [Bool.and_eq_true, Bool.or_eq_true, beq_iff_eq] at h2
      obtain ⟨hb, h3⟩ := h2
      have hl := hx o ho e he hb
      rcases h3 with rfl | h3
      · exact hl
      · exact waits_listed hc f e.on h3 (fun o2 ho2 e2 he2 hb2 => hc e.on o2 ho2 hl e2 he2 hb2)
theorem getD_clash {listed : Array Bool} {i : Nat} (h1 : listed.getD i true = false) (h2 : listed.getD i false = true) : False := by
  rcases Nat.lt_or_ge i listed.size with h | h
  · simp [h] at h1 h2
    rw [h1] at h2
    cases h2
  · simp [Array.getElem?_eq_none h] at h1
theorem wpAnyL_first {i : Nat} {oi : Oper} {v : Value} (hi : ops[i]? = some oi) (hsel : ∀ (j : Nat) (o : Oper) cs b, ops[j]? = some o → o.op ≠ .select cs b)
    (hQ : ∀ c a w, Q (.panic c) (a.put oi.dst v) w → Q (.panic c) a w) :
    ∀ (fuel : Nat) (listed : Array Bool) (a : Act) (w : World), ClosedL md ops listed → (∀ x, X.contains x = true → listed.getD x false = true ∨ waitsB md ops i ops.size x = true) →
      (∀ j oj, ops[j]? = some oj → j ≠ i → listed.getD j true = false → (∀ e ∈ oj.after, Region.binds md e = true → e.on ≠ i) → oi.apart ops oj = true) →
      i ∈ Region.ready md ops listed → YieldsIf P ops S oi v a → S w →
      wpAnyL P md ops Q S X fuel (listed.setIfInBounds i true) (a.put oi.dst v) w → wpAnyL P md ops Q S X (fuel + 1) listed a w := by
  intro fuel
  induction fuel with
  | zero =>
    intro listed a w _ _ _ hr hy hS H
    refine ⟨fun h => (by rw [h] at hr; cases hr), fun j hj => ?_⟩
    by_cases hji : j = i
    · subst hji; exact hy.wpOp hi hS ⟨fun _ => hS, H⟩
    · have := ready_mono hj hji
      rw [H.1] at this
      cases this
  | succ fuel ih =>
    intro listed a w hc hX hfree hr hy hS H
    refine ⟨fun h => (by rw [h] at hr; cases hr), fun j hj => ?_⟩
    by_cases hji : j = i
    · subst hji; exact hy.wpOp hi hS ⟨fun _ => hS, H⟩
    · have h1 := H.2 j (ready_mono hj hji)
      obtain ⟨hjun, oj, hoj, hall⟩ := mem_ready.1 hj
      have hiun := (mem_ready.1 hr).1
      have hnot : ∀ e ∈ oj.after, Region.binds md e = true → e.on ≠ i := fun e he hb heq => by
        have h1 := hall e he hb
        rw [heq] at h1
        exact getD_clash hiun h1
      have hjX : X.contains j = false := by
        cases hx : X.contains j with
        | false => rfl
        | true =>
          rcases hX j hx with h9 | h9
          · exact (getD_clash hjun h9).elim
          exact (getD_clash hiun (waits_listed hc ops.size j h9 (fun o ho e he hb => by
            rw [hoj] at ho
            injection ho with ho
            subst ho
            exact hall e he hb))).elim
      have h2 := wpOp_putIf hoj (hfree j oj hoj hji hjun hnot) (fun cs b => hsel i oi cs b hi) (fun cs b => hsel j oj cs b hoj) hQ hy h1
      have hfree' : ∀ k ok, ops[k]? = some ok → k ≠ i → (listed.setIfInBounds j true).getD k true = false →
          (∀ e ∈ ok.after, Region.binds md e = true → e.on ≠ i) → oi.apart ops ok = true := fun k ok hk hki hun hno => by
        refine hfree k ok hk hki ?_ hno
        by_cases hjk : j = k
        · subst hjk; exact hjun
        · rw [getD_set_ne true hjk] at hun; exact hun
      have hc' : ClosedL md ops (listed.setIfInBounds j true) := by
        intro k ok hk hl e he hb
        by_cases hjk : j = k
        · subst hjk
          rw [hoj] at hk
          injection hk with hk
          subst hk
          exact getD_set_true (hall e he hb)
        · rw [getD_set_ne false hjk] at hl
          exact getD_set_true (hc k ok hk hl e he hb)
      refine wpOp_mono (fun a' w' h3 => ⟨h3.2.1, ih (listed.setIfInBounds j true) a' w' hc' (fun x hx => (hX x hx).imp getD_set_true id) hfree' (ready_mono hr (Ne.symm hji)) h3.1 (h3.2.1 hjX) ?_⟩) h2
      rw [Array.setIfInBounds_comm _ _ hji]
      exact h3.2.2
theorem wpAnyL_firstW {i : Nat} {oi : Oper} {v : Value} (hi : ops[i]? = some oi) (hsel : ∀ (j : Nat) (o : Oper) cs b, ops[j]? = some o → o.op ≠ .select cs b)
    (hQ : ∀ c a w, Q (.panic c) (a.put oi.dst v) w → Q (.panic c) a w) (hX : X.contains i = true) :
    ∀ (fuel : Nat) (listed : Array Bool) (a : Act) (w : World),
      (∀ j oj, ops[j]? = some oj → j ≠ i → listed.getD j true = false → (∀ e ∈ oj.after, Region.binds md e = true → e.on ≠ i) → oi.apart ops oj = true) →
      i ∈ Region.ready md ops listed → YieldsIf P ops (fun _ => True) oi v a →
      wpAnyL P md ops Q S X fuel (listed.setIfInBounds i true) (a.put oi.dst v) w → wpAnyL P md ops Q S X (fuel + 1) listed a w := by
  intro fuel
  induction fuel with
  | zero =>
    intro listed a w _ hr hy H
    refine ⟨fun h => (by rw [h] at hr; cases hr), fun j hj => ?_⟩
    by_cases hji : j = i
    · (have hX := hX); subst hji; exact hy.wpOp hi trivial ⟨(fun h0 => by rw [hX] at h0; cases h0), H⟩
    · have := ready_mono hj hji
      rw [H.1] at this
      cases this
  | succ fuel ih =>
    intro listed a w hfree hr hy H
    refine ⟨fun h => (by rw [h] at hr; cases hr), fun j hj => ?_⟩
    by_cases hji : j = i
    · (have hX := hX); subst hji; exact hy.wpOp hi trivial ⟨(fun h0 => by rw [hX] at h0; cases h0), H⟩
    · have h1 := H.2 j (ready_mono hj hji)
      obtain ⟨hjun, oj, hoj, hall⟩ := mem_ready.1 hj
      have hiun := (mem_ready.1 hr).1
      have hnot : ∀ e ∈ oj.after, Region.binds md e = true → e.on ≠ i := fun e he hb heq => by
        have h1 := hall e he hb
        rw [heq] at h1
        exact getD_clash hiun h1
      have h2 := wpOp_putIf hoj (hfree j oj hoj hji hjun hnot) (fun cs b => hsel i oi cs b hi) (fun cs b => hsel j oj cs b hoj) hQ hy h1
      have hfree' : ∀ k ok, ops[k]? = some ok → k ≠ i → (listed.setIfInBounds j true).getD k true = false →
          (∀ e ∈ ok.after, Region.binds md e = true → e.on ≠ i) → oi.apart ops ok = true := fun k ok hk hki hun hno => by
        refine hfree k ok hk hki ?_ hno
        by_cases hjk : j = k
        · subst hjk; exact hjun
        · rw [getD_set_ne true hjk] at hun; exact hun
      refine wpOp_mono (fun a' w' h3 => ⟨h3.2.1, ih (listed.setIfInBounds j true) a' w' hfree' (ready_mono hr (Ne.symm hji)) h3.1 ?_⟩) h2
      rw [Array.setIfInBounds_comm _ _ hji]
      exact h3.2.2
def waitAll (md : Region.Mode) (ops : Array Oper) (listed : Array Bool) (i : Nat) (X : List Nat) : Bool := X.all fun x => listed.getD x false || waitsB md ops i ops.size x
theorem takeL {i : Nat} {oi : Oper} {d : Option Tmp} {v : Value} {fuel : Nat} {listed : Array Bool} {a : Act} {w : World} (hi : ops[i]? = some oi) (hd : oi.dst = d)
    (hs : Region.noSelect ops = true) (hf : Region.free md ops listed i = true) (hr : (Region.ready md ops listed).contains i = true) (hc : closedB md ops listed = true) (hX : waitAll md ops listed i X = true)
    (hQ : ∀ c a w, Q (.panic c) (a.put oi.dst v) w → Q (.panic c) a w) (hy : YieldsIf P ops S oi v a) (hS : S w)
    (h : wpAnyL P md ops Q S X fuel (listed.setIfInBounds i true) (a.put d v) w) : wpAnyL P md ops Q S X (fuel + 1) listed a w :=
  wpAnyL_first hi (Region.noSelect_spec hs) hQ fuel listed a w (closedB_spec hc) (fun x hx => by unfold waitAll at hX; rw [List.all_eq_true] at hX; have h9 := hX x (by simpa using hx); simpa using h9) (Region.free_spec hi hf) (by simpa using hr) hy hS (hd ▸ h)
/-- Taken first: what yields in every world (and is among X). -/
theorem takeW {i : Nat} {oi : Oper} {d : Option Tmp} {v : Value} {fuel : Nat} {listed : Array Bool} {a : Act} {w : World} (hi : ops[i]? = some oi) (hd : oi.dst = d)
    (hs : Region.noSelect ops = true) (hf : Region.free md ops listed i = true) (hr : (Region.ready md ops listed).contains i = true) (hX : X.contains i = true)
    (hQ : ∀ c a w, Q (.panic c) (a.put oi.dst v) w → Q (.panic c) a w) (hy : YieldsIf P ops (fun _ => True) oi v a)
    (h : wpAnyL P md ops Q S X fuel (listed.setIfInBounds i true) (a.put d v) w) : wpAnyL P md ops Q S X (fuel + 1) listed a w :=
  wpAnyL_firstW hi (Region.noSelect_spec hs) hQ hX fuel listed a w (Region.free_spec hi hf) (by simpa using hr) hy (hd ▸ h)
/-- One operation alone may come up, and S is shown anew behind it. -/
theorem stepL {i : Nat} {o : Oper} {fuel : Nat} {listed : Array Bool} {a : Act} {w : World} (hr : Region.ready md ops listed = [i]) (ho : ops[i]? = some o)
    (h : ∀ K' : Act → World → Prop, Shut (∀ a w, S w → (S w → wpAnyL P md ops Q S X fuel (listed.setIfInBounds i true) a w) → K' a w) → if Region.wanted o (yielded ops a.tmps) = true then Oper.wp P o a w K' Q else K' (a.put o.dst undef) w) : wpAnyL P md ops Q S X (fuel + 1) listed a w := by
  refine ⟨(fun h0 => by rw [hr] at h0; cases h0), fun j hj => ?_⟩
  rw [hr, List.mem_singleton] at hj
  subst hj
  exact wpOp_step ho (fun K' hK => h K' (fun a w hS hW => hK a w ⟨fun _ => hS, hW hS⟩))
/-- Two operations may come up. -/
theorem stepL2 {i j : Nat} {o p : Oper} {fuel : Nat} {listed : Array Bool} {a : Act} {w : World} (hr : Region.ready md ops listed = [i, j]) (ho : ops[i]? = some o) (hp : ops[j]? = some p)
    (h : ∀ K' : Act → World → Prop, Shut (∀ a w, S w → (S w → wpAnyL P md ops Q S X fuel (listed.setIfInBounds i true) a w) → K' a w) → if Region.wanted o (yielded ops a.tmps) = true then Oper.wp P o a w K' Q else K' (a.put o.dst undef) w)
    (k : ∀ K' : Act → World → Prop, Shut (∀ a w, S w → (S w → wpAnyL P md ops Q S X fuel (listed.setIfInBounds j true) a w) → K' a w) → if Region.wanted p (yielded ops a.tmps) = true then Oper.wp P p a w K' Q else K' (a.put p.dst undef) w) : wpAnyL P md ops Q S X (fuel + 1) listed a w := by
  refine ⟨(fun h0 => by rw [hr] at h0; cases h0), fun q hq => ?_⟩
  rw [hr] at hq
  rcases List.mem_cons.1 hq with rfl | hq
  · exact wpOp_step ho (fun K' hK => h K' (fun a w hS hW => hK a w ⟨fun _ => hS, hW hS⟩))
  · rw [List.mem_singleton] at hq
    subst hq
    exact wpOp_step hp (fun K' hK => k K' (fun a w hS hW => hK a w ⟨fun _ => hS, hW hS⟩))
/-- A closing store. -/
theorem lastL {i : Nat} {o : Oper} {fuel : Nat} {listed : Array Bool} {a : Act} {w : World} (hr : Region.ready md ops listed = [i]) (hx : X.contains i = true) (ho : ops[i]? = some o)
    (h : ∀ K' : Act → World → Prop, Shut (∀ a w, wpAnyL P md ops Q S X fuel (listed.setIfInBounds i true) a w → K' a w) → if Region.wanted o (yielded ops a.tmps) = true then Oper.wp P o a w K' Q else K' (a.put o.dst undef) w) : wpAnyL P md ops Q S X (fuel + 1) listed a w := by
  refine ⟨(fun h0 => by rw [hr] at h0; cases h0), fun j hj => ?_⟩
  rw [hr, List.mem_singleton] at hj
  subst hj
  exact wpOp_step ho (fun K' hK => h K' (fun a w hW => hK a w ⟨(fun h0 => by rw [hx] at h0; cases h0), hW⟩))
theorem doneL {listed : Array Bool} {a : Act} {w : World} (hr : Region.ready md ops listed = []) (h : Q .normal a w) :
    ∀ fuel, wpAnyL P md ops Q S X fuel listed a w
  | 0 => ⟨hr, h⟩
  | _ + 1 => ⟨fun _ => h, by rw [hr]; simp⟩
theorem regionL (X : List Nat) {id : Nat} {a : Act} {w : World} (hm : P.follows .mixedOrders = true) (hS : S w.drew)
    (h : S w.drew → wpAnyL P .any ops Q S X ops.size (Array.replicate ops.size false) a w.drew) : (Code.region id ops true).wp P Q a w :=
  wp_region_any hm (wpAny_of_L _ _ _ _ (h hS))
end
end Go.Proofs.YtkpnffokjpgalaaGreat
/- Slices: 'IsRow enc k w A c l': the slice at A (capacity c) reads as the list l, an element x being the k cells 'enc x'. 'Owns ..': the call itself made it. -/
namespace Go.Proofs.YtkpnffokjpgalaaGreat
set_option linter.unusedVariables false
set_option linter.unusedSimpArgs false
open Go.RowKit

structure RowAt {α : Type} (enc : α → List Value) (k : Nat) (w : World) (g off : Nat) (l : List α) : Prop where
  cells : ∀ i (h : i < l.length) j u, (enc l[i])[j]? = some u → w.cell? ⟨g, off + i * k + j, none⟩ = some u
  there : Nonempty (Old w g)
def IsRow {α : Type} (enc : α → List Value) (k : Nat) (w : World) (A : Option Addr) (c : Nat) (l : List α) : Prop :=
  (A = none → c = 0) ∧ (l = [] ∨ ∃ g off, A = some ⟨g, off, none⟩ ∧ RowAt enc k w g off l)
/-- Made by the call: its blocks are numbered from 'base' on. -/
def Owns {α : Type} (enc : α → List Value) (k : Nat) (base : Nat) (e : TypeId) (w : World) (A : Option Addr) (c : Nat) (l : List α) : Prop :=
  w.ownsRow base e k (.slice A l.length c) l.length (l.flatMap enc)
def blockOf (A : Option Addr) : Option Nat := A.map (·.block)

section
variable {α : Type} {enc : α → List Value} {k : Nat} {w w' : World} {g off c : Nat} {A : Option Addr} {l : List α}
theorem RowAt.of (h : RowAt enc k w g off l) (hs : SinceOf w w') : RowAt enc k w' g off l := by
  obtain ⟨z, rfl⟩ := hs
  have := h.there
  exact ⟨fun i hi j u hu => by rw [Since.cell]; exact h.cells i hi j u hu, inferInstance⟩
theorem IsRow.of (h : IsRow enc k w A c l) (hs : SinceOf w w') : IsRow enc k w' A c l := by
  refine ⟨h.1, ?_⟩
  rcases h.2 with h | ⟨g, off, e, h⟩
  · exact .inl h
  · exact .inr ⟨g, off, e, h.of hs⟩
theorem IsRow.since (h : IsRow enc k w A c l) (z : Since w) : IsRow enc k z.wd A c l := h.of ⟨z, rfl⟩
theorem IsRow.later (h : IsRow enc k w A c l) (z : Later w) : IsRow enc k z.wd A c l := h.of ⟨z.since, rfl⟩
theorem IsRow.at_ (h : IsRow enc k w A c l) (hn : 0 < l.length) : ∃ g off, A = some ⟨g, off, none⟩ ∧ RowAt enc k w g off l := by
  rcases h.2 with rfl | h
  · simp at hn
  · exact h
theorem IsRow.nil (enc : α → List Value) (k : Nat) (w : World) : IsRow enc k w none 0 [] := ⟨fun _ => rfl, .inl rfl⟩

theorem flat_length (hk : ∀ x, (enc x).length = k) (l : List α) : (l.flatMap enc).length = l.length * k := by
  induction l with
  | nil => simp
  | cons x l ih => simp [List.flatMap_cons, ih, hk, Nat.add_mul, Nat.add_comm]
theorem flat_get (hk : ∀ x, (enc x).length = k) : ∀ (l : List α) (i : Nat) (h : i < l.length) (j : Nat), j < k → (l.flatMap enc)[i * k + j]? = (enc l[i])[j]?
  | [], i, h, _, _ => by simp at h
  | x :: l, 0, _, j, hj => by
    rw [List.flatMap_cons, Nat.zero_mul, Nat.zero_add, List.getElem?_append_left (by rw [hk]; exact hj)]; rfl
  | x :: l, i + 1, h, j, hj => by
    rw [List.flatMap_cons, List.getElem?_append_right (by rw [hk, Nat.add_mul]; omega), hk, show (i + 1) * k + j - k = i * k + j from by rw [Nat.add_mul]; omega]
    rw [flat_get hk l i (by simpa using h) j hj]; simp
theorem flat_at (hk : ∀ x, (enc x).length = k) (hk0 : 0 < k) (l : List α) (j : Nat) (u : Value) (h : (l.flatMap enc)[j]? = some u) : ∃ (hi : j / k < l.length), (enc l[j / k])[j % k]? = some u := by
  have hj : j < l.length * k := by
    have := (List.getElem?_eq_some_iff.1 h).1
    rwa [flat_length hk] at this
  have hi : j / k < l.length := Nat.div_lt_of_lt_mul (by rw [Nat.mul_comm]; exact hj)
  refine ⟨hi, ?_⟩
  rw [← flat_get hk l (j / k) hi (j % k) (Nat.mod_lt _ hk0), Nat.mul_comm, Nat.div_add_mod, h]
theorem add_none (g off j : Nat) : (⟨g, off, none⟩ : Addr).add j = ⟨g, off + j, none⟩ := by unfold Addr.add; split <;> simp_all
theorem RowAt.news (hk : ∀ x, (enc x).length = k) (hk0 : 0 < k) (h : RowAt enc k w g off l) : ∀ j u, (l.flatMap enc)[j]? = some u → w.cell? ((⟨g, off, none⟩ : Addr).add j) = some u := by
  intro j u hu
  obtain ⟨hi, he⟩ := flat_at hk hk0 l j u hu
  rw [add_none]
  have := h.cells _ hi _ _ he
  rwa [Nat.add_assoc, Nat.mul_comm, Nat.div_add_mod] at this

variable {base : Nat} {e : TypeId}
theorem Owns.nil (enc : α → List Value) (k base : Nat) (e : TypeId) (w : World) : Owns enc k base e w none 0 [] := by simpa [Owns] using World.ownsRow_nil w base e k
theorem Owns.alloc (h : Owns enc k base e w A c l) (o : Obj) : Owns enc k base e (w.alloc o) A c l := World.ownsRow.alloc h o
theorem Owns.kept {row : Option Nat} (h : Owns enc k base e w A c l) (hg : w.grownBy w' row) (hne : blockOf A = none ∨ blockOf A ≠ row) : Owns enc k base e w' A c l := by
  refine World.ownsRow.kept h hg ?_
  cases A with
  | none => exact .inl rfl
  | some a => simpa [blockOf, Value.ownBlock] using hne
theorem Owns.below (h : Owns enc k base e w A c l) : ∀ b, blockOf A = some b → base ≤ b ∧ b < w.heap.size := by
  intro b hb
  refine World.ownsRow.lt h b ?_
  cases A with
  | none => simp [blockOf] at hb
  | some a => simpa [blockOf, Value.ownBlock] using hb
theorem Owns.of (h : Owns enc k base e w A c l) (hs : SinceOf w w') : Owns enc k base e w' A c l := by
  obtain ⟨z, rfl⟩ := hs
  obtain ⟨h1, h2⟩ := h
  refine ⟨h1, ?_⟩
  rcases h2 with h2 | ⟨g, cap, cur, hv, hb, hg, r⟩
  · exact .inl h2
  · refine .inr ⟨g, cap, cur, hv, hb, ?_, r⟩
    rw [z.below.block g ?_]
    · exact hg
    · rcases Nat.lt_or_ge g w.heap.size with hlt | hge
      · exact hlt
      · rw [Array.getElem?_eq_none hge] at hg; cases hg
theorem Owns.base_le {b : Nat} (h : Owns enc k base e w A c l) (hb : b ≤ base) : Owns enc k b e w A c l := by
  obtain ⟨h1, h2⟩ := h
  refine ⟨h1, ?_⟩
  rcases h2 with h2 | ⟨g, cap, cur, hv, hbg, r⟩
  · exact .inl h2
  · exact .inr ⟨g, cap, cur, hv, Nat.le_trans hb hbg, r⟩
theorem Owns.isRow (hk : ∀ x, (enc x).length = k) (h : Owns enc k base e w A c l) : IsRow enc k w A c l := by
  obtain ⟨h1, h2⟩ := h
  rcases h2 with ⟨h2, h3⟩ | ⟨g, cap, cur, hv, hb, hg, hn, hm, hs, ht⟩
  · simp only [Value.slice.injEq] at h2
    exact ⟨fun _ => h2.2.2, .inl (List.eq_nil_of_length_eq_zero h3)⟩
  · simp only [Value.slice.injEq, true_and] at hv
    obtain ⟨rfl, rfl⟩ := hv
    refine ⟨(by intro h; cases h), .inr ⟨g, 0, rfl, ⟨fun i hi j u hu => ?_, ⟨⟨?_⟩⟩⟩⟩⟩
    · have hj : j < k := by
        have := (List.getElem?_eq_some_iff.1 hu).1
        rwa [hk] at this
      have hlt : i * k + j < l.length * k := by
        calc i * k + j < i * k + k := by omega
          _ = (i + 1) * k := by rw [Nat.add_mul]; omega
          _ ≤ l.length * k := Nat.mul_le_mul_right _ hi
      rw [Nat.zero_add, cell_of_row w g (i * k + j) cur e (0, 0) hg]
      have h3 : cur.toList[i * k + j]? = some u := by
        have := flat_get hk l i hi j hj
        rw [hu, ← ht, List.getElem?_take, if_pos hlt] at this
        exact this
      simpa using h3
    · rcases Nat.lt_or_ge g w.heap.size with hlt | hge
      · exact hlt
      · rw [Array.getElem?_eq_none hge] at hg; cases hg
/-- 'append(v, x...)', v the call's own, x whatever slice. -/
theorem run_append_row {P : Program} (hk : ∀ x, (enc x).length = k) (hk0 : 0 < k) (h1c : ∀ x, ∀ u ∈ enc x, u.oneCell' = true) (t ty : TypeId) (i : TypeInfo) (z : Value) (bytes : Nat) (ht : P.underlying t = some (.slice e)) (hi : P.info? e = some i) (hz : i.zero = some z)
    (hsize : i.size = k) (hby : i.bytes = bytes) (hzs : z.cells.size = k) (hown : Owns enc k base e w A c l) {B : Option Addr} {d : Nat} {m : List α} (hm : IsRow enc k w B d m)
    (h63 : l.length + m.length ≤ maxLen) (hbytes : (l.length + m.length) * bytes ≤ 140737488355328) (hbase : base ≤ w.heap.size) :
    ∃ A' c' w', (Builtin.append_ #[t, t] ty #[.slice A l.length c, .slice B m.length d]).run P w = .ok (.slice A' (l.length + m.length) c') w' ∧ Owns enc k base e w' A' c' (l ++ m) ∧ w.grownBy w' (blockOf A) ∧ (blockOf A' = blockOf A ∨ blockOf A' = some w.heap.size) := by
  have hfl : l.flatMap enc ++ m.flatMap enc = (l ++ m).flatMap enc := by simp
  have hbl : (Value.slice A l.length c).ownBlock = blockOf A := by cases A <;> rfl
  have main : ∀ ad : Addr, B = some ad → (∀ j u, (m.flatMap enc)[j]? = some u → w.cell? (ad.add j) = some u) →
      ∃ A' c' w', (Builtin.append_ #[t, t] ty #[.slice A l.length c, .slice B m.length d]).run P w = .ok (.slice A' (l.length + m.length) c') w' ∧ Owns enc k base e w' A' c' (l ++ m) ∧ w.grownBy w' (blockOf A) ∧ (blockOf A' = blockOf A ∨ blockOf A' = some w.heap.size) := by
    rintro ad rfl hnews
    obtain ⟨v', w', hr, h2, h3, _, h5⟩ := run_append_own_at (P := P) w base t ty e i z k bytes ht hi hz hsize hby hzs hk0 _ _ _ hown ad m.length d (m.flatMap enc) (flat_length hk m) hnews
      (fun u hu => by simp only [List.mem_flatMap] at hu; obtain ⟨x, _, hx⟩ := hu; exact h1c x u hx) h63 hbytes hbase
    have hform : ∃ A' c', v' = .slice A' (l.length + m.length) c' := by
      rcases h2.2 with ⟨rfl, h0⟩ | ⟨g, cap, cur, hv, _⟩
      · exact ⟨none, 0, by rw [h0]⟩
      · exact ⟨_, _, hv⟩
    obtain ⟨A', c', rfl⟩ := hform
    rw [hfl] at h2
    rw [hbl] at h3 h5
    refine ⟨A', c', w', hr, ?_, h3, ?_⟩
    · unfold Owns; rw [List.length_append]; exact h2
    · have : (Value.slice A' (l.length + m.length) c').ownBlock = blockOf A' := by cases A' <;> rfl
      rw [this] at h5
      exact h5
  rcases hm.2 with rfl | ⟨g, off, rfl, hr⟩
  · cases B with
    | none =>
      obtain rfl : d = 0 := hm.1 rfl
      have hrun := run_append_owned_none (P := P) (w := w) base t ty e i k ht hi _ _ _ hown
      exact ⟨A, c, w, hrun, by simpa using hown, ⟨rfl, rfl, rfl, Nat.le_refl _, fun _ _ _ => rfl⟩, .inl rfl⟩
    | some ad => exact main ad rfl (by simp)
  · exact main _ rfl (hr.news hk hk0)
end

section
variable {α : Type} {enc : α → List Value} {k : Nat} {P : Program} {base : Nat} {e : TypeId}
theorem wp_append_row {w : World} {o : Oper} {a : Act} {K : Act → World → Prop} {Q : Exit → Act → World → Prop} (s x : Operand) (t : TypeId)
    (ho : o.op = .call { callee := .builtin .append, args := #[s, x], argTypes := #[t, t] })
    (hk : ∀ x, (enc x).length = k) (hk0 : 0 < k) (h1c : ∀ x, ∀ u ∈ enc x, u.oneCell' = true) (i : TypeInfo) (z : Value) (bytes : Nat) (ht : P.underlying t = some (.slice e)) (hi : P.info? e = some i) (hz : i.zero = some z)
    (hsize : i.size = k) (hby : i.bytes = bytes) (hzs : z.cells.size = k) {A : Option Addr} {c : Nat} {l : List α} (hs : a.eval s = .slice A l.length c) (hown : Owns enc k base e w A c l) {B : Option Addr} {d : Nat} {m : List α} (hx : a.eval x = .slice B m.length d) (hm : IsRow enc k w B d m)
    (h63 : l.length + m.length ≤ maxLen) (hbytes : (l.length + m.length) * bytes ≤ 140737488355328) (hbase : base ≤ w.heap.size)
    (h : ∀ A' c' w', Owns enc k base e w' A' c' (l ++ m) → w.grownBy w' (blockOf A) → (blockOf A' = blockOf A ∨ blockOf A' = some w.heap.size) → K (a.put o.dst (.slice A' (l.length + m.length) c')) w') : o.wp P a w K Q := by
  obtain ⟨A', c', w', hr, h2, h3, h4⟩ := run_append_row (P := P) hk hk0 h1c t o.type i z bytes ht hi hz hsize hby hzs hown hm h63 hbytes hbase
  unfold Oper.wp execOp
  simp only [ho, resolve, invoke, builtin, Sem.run_bind, Sem.run_pure, Result.andThen_ok, List.map_toArray, List.map_cons, List.map_nil, hs, hx, hr]
  exact h A' c' w' h2 h3 h4
theorem wpList_append_row {w : World} {ops : Array Oper} {rest : List Oper} {o : Oper} {a : Act} {Q : Exit → Act → World → Prop} (hgd : o.guard = none) (s x : Operand) (t : TypeId)
    (ho : o.op = .call { callee := .builtin .append, args := #[s, x], argTypes := #[t, t] })
    (hk : ∀ x, (enc x).length = k) (hk0 : 0 < k) (h1c : ∀ x, ∀ u ∈ enc x, u.oneCell' = true) (i : TypeInfo) (z : Value) (bytes : Nat) (ht : P.underlying t = some (.slice e)) (hi : P.info? e = some i) (hz : i.zero = some z)
    (hsize : i.size = k) (hby : i.bytes = bytes) (hzs : z.cells.size = k) {A : Option Addr} {c : Nat} {l : List α} (hs : a.eval s = .slice A l.length c) (hown : Owns enc k base e w A c l) {B : Option Addr} {d : Nat} {m : List α} (hx : a.eval x = .slice B m.length d) (hm : IsRow enc k w B d m)
    (h63 : l.length + m.length ≤ maxLen) (hbytes : (l.length + m.length) * bytes ≤ 140737488355328) (hbase : base ≤ w.heap.size)
    (h : ∀ A' c' w', Owns enc k base e w' A' c' (l ++ m) → w.grownBy w' (blockOf A) → (blockOf A' = blockOf A ∨ blockOf A' = some w.heap.size) → wpList P ops Q rest (a.put o.dst (.slice A' (l.length + m.length) c')) w') : wpList P ops Q (o :: rest) a w :=
  wpList_plain hgd fun _ hK => wp_append_row s x t ho hk hk0 h1c i z bytes ht hi hz hsize hby hzs hs hown hx hm h63 hbytes hbase fun A' c' w' h2 h3 h4 => hK _ _ (h A' c' w' h2 h3 h4)
theorem step_append_row {w : World} {ops : Array Oper} {o : Oper} {a : Act} {K : Act → World → Prop} {Q : Exit → Act → World → Prop} {E : Prop} (hgd : o.guard = none) (s x : Operand) (t : TypeId)
    (ho : o.op = .call { callee := .builtin .append, args := #[s, x], argTypes := #[t, t] })
    (hk : ∀ x, (enc x).length = k) (hk0 : 0 < k) (h1c : ∀ x, ∀ u ∈ enc x, u.oneCell' = true) (i : TypeInfo) (z : Value) (bytes : Nat) (ht : P.underlying t = some (.slice e)) (hi : P.info? e = some i) (hz : i.zero = some z)
    (hsize : i.size = k) (hby : i.bytes = bytes) (hzs : z.cells.size = k) {A : Option Addr} {c : Nat} {l : List α} (hs : a.eval s = .slice A l.length c) (hown : Owns enc k base e w A c l) {B : Option Addr} {d : Nat} {m : List α} (hx : a.eval x = .slice B m.length d) (hm : IsRow enc k w B d m)
    (h63 : l.length + m.length ≤ maxLen) (hbytes : (l.length + m.length) * bytes ≤ 140737488355328) (hbase : base ≤ w.heap.size)
    (h : ∀ A' c' w', Owns enc k base e w' A' c' (l ++ m) → w.grownBy w' (blockOf A) → (blockOf A' = blockOf A ∨ blockOf A' = some w.heap.size) → K (a.put o.dst (.slice A' (l.length + m.length) c')) w') :
    if Region.wanted o (yielded ops a.tmps) = true then Oper.wp P o a w K Q else E := by
  have hw : Region.wanted o (yielded ops a.tmps) = true := by simp [Region.wanted, hgd]
  rw [if_pos hw]
  exact wp_append_row s x t ho hk hk0 h1c i z bytes ht hi hz hsize hby hzs hs hown hx hm h63 hbytes hbase h
end

end Go.Proofs.YtkpnffokjpgalaaGreat
/- Convex chains of points: sides, what a chain's stack keeps. No program here. -/
namespace Go.Proofs.YtkpnffokjpgalaaGreat
set_option linter.unusedVariables false
set_option linter.unusedSimpArgs false

abbrev Pt := Int × Int
def det (a b c : Pt) : Int := (b.1 - a.1) * (c.2 - a.2) - (b.2 - a.2) * (c.1 - a.1)
/-- A linear form. -/
def lin (k l : Int) (p : Pt) : Int := k * p.1 + l * p.2

theorem pos_of_mul {a b : Int} (ha : 0 < a) (h : 0 < a * b) : 0 < b := by
  rcases Int.lt_or_le 0 b with hb | hb
  · exact hb
  · have := Int.mul_nonpos_of_nonneg_of_nonpos (Int.le_of_lt ha) hb; omega
theorem nonneg_of_mul {a b : Int} (ha : 0 < a) (h : 0 ≤ a * b) : 0 ≤ b := by
  rcases Int.lt_or_le b 0 with hb | hb
  · have := Int.mul_neg_of_pos_of_neg ha hb; omega
  · exact hb
theorem zero_of_mul {a b : Int} (ha : 0 < a) (h : a * b = 0) : b = 0 := by
  rcases Int.mul_eq_zero.1 h with h | h
  · omega
  · exact h
theorem det_self (a b : Pt) : det a b a = 0 := by unfold det; grind
theorem det_end (a b : Pt) : det a b b = 0 := by unfold det; grind
theorem det_same (a b : Pt) : det a a b = 0 := by unfold det; grind
theorem det_cycle (a b c : Pt) : det a b c = det b c a := by unfold det; grind
theorem det_swap (a b c : Pt) : det b a c = -det a b c := by unfold det; grind
theorem det_four (a b c d : Pt) : det b c d = det a b c + det a c d - det a b d := by unfold det; grind
/-- The relation of three vectors from a point. -/
theorem det_lin (k l : Int) (a b c d : Pt) : (lin k l c - lin k l a) * det a b d = (lin k l b - lin k l a) * det a c d + (lin k l d - lin k l a) * det a b c := by
  unfold det lin; grind

section
variable {k l : Int} {a b c d p q : Pt}
/-- Left turns join: of four points in ascending order. -/
theorem turn_skip (hbc : lin k l b < lin k l c) (hab : lin k l a < lin k l b) (hcd : lin k l c < lin k l d) (h1 : 0 < det a b c) (h2 : 0 < det b c d) : 0 < det a b d ∧ 0 < det a c d := by
  have e : (lin k l c - lin k l b) * det a b d = (lin k l c - lin k l a) * 0 + ((lin k l d - lin k l b) * det a b c + (lin k l b - lin k l a) * det b c d) := by
    unfold det lin; grind
  have e2 : (lin k l c - lin k l b) * det a c d = ((lin k l d - lin k l c) * det a b c + (lin k l c - lin k l a) * det b c d) := by
    unfold det lin; grind
  have m1 : 0 < (lin k l d - lin k l b) * det a b c := Int.mul_pos (by omega) h1
  have m2 : 0 < (lin k l b - lin k l a) * det b c d := Int.mul_pos (by omega) h2
  have m3 : 0 < (lin k l d - lin k l c) * det a b c := Int.mul_pos (by omega) h1
  have m4 : 0 < (lin k l c - lin k l a) * det b c d := Int.mul_pos (by omega) h2
  have hp : 0 < lin k l c - lin k l b := by omega
  exact ⟨pos_of_mul hp (by rw [e]; omega), pos_of_mul hp (by rw [e2]; omega)⟩
/-- What lies behind the top of the stack when the top is taken off. -/
theorem side_pop (hab : lin k l a < lin k l b) (hbp : lin k l b < lin k l p) (h : det a b p ≤ 0) (hq : lin k l a ≤ lin k l q) (hl : 0 ≤ det a b q) (ht : lin k l b ≤ lin k l q → 0 ≤ det b p q) : 0 ≤ det a p q := by
  rcases Int.lt_or_le (lin k l q) (lin k l b) with hlt | hge
  · have e : (lin k l b - lin k l a) * det a p q = (lin k l p - lin k l a) * det a b q + (lin k l q - lin k l a) * (-det a b p) := by unfold det lin; grind
    have m1 : 0 ≤ (lin k l p - lin k l a) * det a b q := Int.mul_nonneg (by omega) hl
    have m2 : 0 ≤ (lin k l q - lin k l a) * (-det a b p) := Int.mul_nonneg (by omega) (by omega)
    exact nonneg_of_mul (a := lin k l b - lin k l a) (by omega) (by rw [e]; omega)
  · have := ht hge
    have := det_four a b p q
    omega
/-- What lies ahead of the top when a point is laid on it. -/
theorem side_push (hab : lin k l a < lin k l b) (hbp : lin k l b < lin k l p) (h : 0 < det a b p) (hl : 0 ≤ det a b q) (hq : lin k l q < lin k l b) : 0 ≤ det b p q := by
  have e : (lin k l b - lin k l a) * det b p q = (lin k l p - lin k l b) * det a b q + (lin k l b - lin k l q) * det a b p := by unfold det lin; grind
  have m1 : 0 ≤ (lin k l p - lin k l b) * det a b q := Int.mul_nonneg (by omega) hl
  have m2 : 0 ≤ (lin k l b - lin k l q) * det a b p := Int.mul_nonneg (by omega) (by omega)
  exact nonneg_of_mul (a := lin k l b - lin k l a) (by omega) (by rw [e]; omega)
end

/-- The stack of a chain, its top ahead. -/
def popC (p : Pt) : List Pt → List Pt
  | b :: a :: r => if det a b p ≤ 0 then popC p (a :: r) else b :: a :: r
  | s => s
def chainC : List Pt → List Pt → List Pt
  | s, [] => s
  | s, p :: r => chainC (p :: popC p s) r
/-- Every edge of a stack (from the lower to the upper one). -/
def EdgesC (P : Pt → Pt → Prop) : List Pt → Prop
  | b :: a :: r => P a b ∧ EdgesC P (a :: r)
  | _ => True
def TurnsC : List Pt → Prop
  | c :: b :: a :: r => 0 < det a b c ∧ TurnsC (b :: a :: r)
  | _ => True
def DecC (k l : Int) (s : List Pt) : Prop := EdgesC (fun a b => lin k l a < lin k l b) s
theorem EdgesC.mono {P Q : Pt → Pt → Prop} (h : ∀ a b, P a b → Q a b) : ∀ {s}, EdgesC P s → EdgesC Q s
  | [], _ => trivial
  | [_], _ => trivial
  | b :: a :: r, ⟨h1, h2⟩ => ⟨h _ _ h1, EdgesC.mono h h2⟩
theorem EdgesC.tail {P : Pt → Pt → Prop} : ∀ {b : Pt} {s}, EdgesC P (b :: s) → EdgesC P s
  | _, [], _ => trivial
  | _, _ :: _, h => h.2
theorem TurnsC.tail : ∀ {b : Pt} {s}, TurnsC (b :: s) → TurnsC s
  | _, [], _ => trivial
  | _, [_], _ => trivial
  | _, _ :: _ :: _, h => h.2
theorem TurnsC.skip {k l : Int} {p b : Pt} : ∀ {s}, DecC k l (p :: b :: s) → TurnsC (p :: b :: s) → TurnsC (p :: s) ∧ DecC k l (p :: s)
  | [], _, _ => ⟨trivial, trivial⟩
  | [a], ⟨h1, h2⟩, _ => ⟨trivial, Int.lt_trans h2.1 h1, trivial⟩
  | a :: z :: r, ⟨h1, h2, h3⟩, ⟨t1, t2, t3⟩ => ⟨⟨(turn_skip h2 h3.1 h1 t2 t1).1, t3⟩, Int.lt_trans h2 h1, h3⟩
/-- Every edge behind a point turns left to it. -/
theorem edges_ahead {k l : Int} {p : Pt} : ∀ {s}, DecC k l (p :: s) → TurnsC (p :: s) → EdgesC (fun a b => 0 < det a b p) s
  | [], _, _ => trivial
  | [_], _, _ => trivial
  | b :: a :: r, hd, ht => ⟨ht.1, edges_ahead (TurnsC.skip hd ht).2 (TurnsC.skip hd ht).1⟩

/-- A stack over the points that were seen. -/
structure StackC (k l : Int) (seen s : List Pt) : Prop where
  sub : ∀ q ∈ s, q ∈ seen
  dec : DecC k l s
  turns : TurnsC s
  left : EdgesC (fun a b => ∀ q ∈ seen, 0 ≤ det a b q) s
  low : ∀ z ∈ s.getLast?, ∀ q ∈ seen, lin k l z ≤ lin k l q
theorem pop_inv {k l : Int} {seen : List Pt} {p : Pt} (hp : ∀ q ∈ seen, lin k l q < lin k l p) : ∀ {s : List Pt} {b : Pt}, StackC k l seen (b :: s) → (∀ q ∈ seen, lin k l b ≤ lin k l q → 0 ≤ det b p q) →
    StackC k l (p :: seen) (p :: popC p (b :: s)) ∧ (popC p (b :: s)).getLast? = (b :: s).getLast? ∧ (p :: popC p (b :: s)).head? = some p
  | [], b, h, ht => by
    have hb := h.sub b (by simp)
    have hlow := h.low b (by simp)
    refine ⟨⟨fun q hq => ?_, ⟨hp b hb, trivial⟩, trivial, ⟨fun q hq => ?_, trivial⟩, fun z hz q hq => ?_⟩, rfl, rfl⟩
    · simp [popC] at hq
      rcases hq with rfl | rfl
      · exact List.mem_cons_self
      · exact List.mem_cons_of_mem _ hb
    · rcases List.mem_cons.1 hq with rfl | hq
      · rw [det_end]; exact Int.le_refl _
      · exact ht q hq (hlow q hq)
    · simp [popC] at hz
      subst hz
      rcases List.mem_cons.1 hq with rfl | hq
      · exact Int.le_of_lt (hp _ hb)
      · exact hlow q hq
  | a :: r, b, h, ht => by
    have hb := h.sub b (by simp)
    have ha := h.sub a (by simp)
    by_cases hd : det a b p ≤ 0
    · have e : popC p (b :: a :: r) = popC p (a :: r) := by simp [popC, hd]
      rw [e]
      have h' : StackC k l seen (a :: r) := ⟨fun q hq => h.sub q (List.mem_cons_of_mem _ hq), h.dec.2, h.turns.tail, h.left.2, fun z hz => h.low z (by simpa using hz)⟩
      have := pop_inv hp h' (fun q hq hqa => side_pop (k := k) (l := l) h.dec.1 (hp b hb) hd hqa (h.left.1 q hq) (ht q hq))
      refine ⟨this.1, ?_, rfl⟩
      rw [this.2.1]; simp
    · have e : popC p (b :: a :: r) = b :: a :: r := by simp [popC, hd]
      rw [e]
      have hdec : DecC k l (p :: b :: a :: r) := ⟨hp b hb, h.dec⟩
      have htur : TurnsC (p :: b :: a :: r) := ⟨by omega, h.turns⟩
      refine ⟨⟨fun q hq => ?_, hdec, htur, ⟨fun q hq => ?_, ?_⟩, fun z hz q hq => ?_⟩, rfl, rfl⟩
      · rcases List.mem_cons.1 hq with rfl | hq
        · exact List.mem_cons_self
        · exact List.mem_cons_of_mem _ (h.sub q hq)
      · rcases List.mem_cons.1 hq with rfl | hq
        · rw [det_end]; exact Int.le_refl _
        · rcases Int.lt_or_le (lin k l q) (lin k l b) with hlt | hge
          · exact side_push (k := k) (l := l) h.dec.1 (hp b hb) (by omega) (h.left.1 q hq) hlt
          · exact ht q hq hge
      · have h1 := edges_ahead hdec htur
        have h2 := h.left
        revert h1 h2
        generalize (b :: a :: r) = s
        intro h1 h2
        clear hdec htur h ht e hd ha hb
        induction s with
        | nil => trivial
        | cons x s ih =>
          cases s with
          | nil => trivial
          | cons y s =>
            refine ⟨fun q hq => ?_, ih h1.2 h2.2⟩
            rcases List.mem_cons.1 hq with rfl | hq
            · exact Int.le_of_lt h1.1
            · exact h2.1 q hq
      · have hz' : z ∈ (b :: a :: r).getLast? := by simpa using hz
        rcases List.mem_cons.1 hq with rfl | hq
        · have hzm : z ∈ b :: a :: r := List.mem_of_getLast? hz'
          exact Int.le_of_lt (hp _ (h.sub z hzm))
        · exact h.low z hz' q hq
theorem StackC.perm {k l : Int} {seen seen' s : List Pt} (h : StackC k l seen s) (hm : ∀ q, q ∈ seen' ↔ q ∈ seen) : StackC k l seen' s :=
  ⟨fun q hq => (hm q).2 (h.sub q hq), h.dec, h.turns, h.left.mono fun a b hab q hq => hab q ((hm q).1 hq), fun z hz q hq => h.low z hz q ((hm q).1 hq)⟩
/-- The whole chain over ascending points. -/
theorem chain_inv {k l : Int} : ∀ {rest seen s : List Pt} {b : Pt}, StackC k l seen (b :: s) → (∀ q ∈ seen, lin k l q ≤ lin k l b) → (∀ q ∈ seen, lin k l q = lin k l b → q = b) → (b :: rest).Pairwise (fun x y => lin k l x < lin k l y) →
    StackC k l (rest.reverse ++ seen) (chainC (b :: s) rest) ∧ (chainC (b :: s) rest).getLast? = (b :: s).getLast? ∧ (chainC (b :: s) rest).head? = (b :: rest).getLast?
  | [], seen, s, b, h, _, _, _ => ⟨h, rfl, by simp [chainC]⟩
  | p :: rest, seen, s, b, h, hle, heq, hpw => by
    have hbp : lin k l b < lin k l p := (List.pairwise_cons.1 hpw).1 p (by simp)
    have hp : ∀ q ∈ seen, lin k l q < lin k l p := fun q hq => Int.lt_of_le_of_lt (hle q hq) hbp
    have h1 := pop_inv hp h (fun q hq hge => by
      have : q = b := heq q hq (Int.le_antisymm (hle q hq) hge)
      rw [this, ← det_cycle, det_same]; exact Int.le_refl _)
    have h2 := chain_inv (rest := rest) h1.1 (fun q hq => by
      rcases List.mem_cons.1 hq with rfl | hq
      · exact Int.le_refl _
      · exact Int.le_of_lt (hp q hq)) (fun q hq e => by
      rcases List.mem_cons.1 hq with rfl | hq
      · rfl
      · have := hp q hq; omega) (List.pairwise_cons.1 hpw).2
    refine ⟨?_, ?_, ?_⟩
    · have := h2.1
      exact this.perm fun q => by simp
    · show (chainC (p :: popC p (b :: s)) rest).getLast? = _
      rw [h2.2.1, ← h1.2.1]
      have : popC p (b :: s) ≠ [] := by
        intro e
        have := congrArg Option.isSome h1.2.1
        rw [e] at this
        simp at this
      cases hq : popC p (b :: s) with
      | nil => exact absurd hq this
      | cons x y => simp
    · show (chainC (p :: popC p (b :: s)) rest).head? = _
      rw [h2.2.2]; simp
end Go.Proofs.YtkpnffokjpgalaaGreat
/- Convex chains as paths; the ring out of a lower and an upper chain. No program here. -/
namespace Go.Proofs.YtkpnffokjpgalaaGreat
set_option linter.unusedVariables false
set_option linter.unusedSimpArgs false

def at0 (c : List Pt) (i : Nat) : Pt := c.getD i (0, 0)
theorem at0_eq {c : List Pt} {i : Nat} (h : i < c.length) : at0 c i = c[i] := by
  unfold at0; rw [List.getD_eq_getElem?_getD, List.getElem?_eq_getElem h, Option.getD_some]
theorem at0_mem {c : List Pt} {i : Nat} (h : i < c.length) : at0 c i ∈ c := by rw [at0_eq h]; exact List.getElem_mem h

theorem TurnsC.skip2 {k l : Int} {p b : Pt} : ∀ {a : Pt} {s}, DecC k l (p :: b :: a :: s) → TurnsC (p :: b :: a :: s) → TurnsC (p :: b :: s) ∧ DecC k l (p :: b :: s)
  | a, [], hd, _ => ⟨trivial, hd.1, trivial⟩
  | a, z :: s, ⟨h1, h2, h3, h4⟩, ⟨t1, t2, t3⟩ => ⟨⟨(turn_skip h2 h3 h1 t2 t1).2, (TurnsC.skip (k := k) (l := l) (p := b) (b := a) (s := z :: s) ⟨h2, h3, h4⟩ ⟨t2, t3⟩).1⟩, h1, Int.lt_trans h3 h2, h4⟩
theorem turns_one {k l : Int} {p b : Pt} : ∀ {s}, DecC k l (p :: b :: s) → TurnsC (p :: b :: s) → ∀ j, j < s.length → 0 < det (at0 s j) b p
  | [], _, _, j, hj => by simp at hj
  | a :: s, hd, ht, 0, _ => ht.1
  | a :: s, hd, ht, j + 1, hj => turns_one (TurnsC.skip2 hd ht).2 (TurnsC.skip2 hd ht).1 j (by simpa using hj)
theorem turns_two {k l : Int} {p : Pt} : ∀ {s}, DecC k l (p :: s) → TurnsC (p :: s) → ∀ i j, i < j → j < s.length → 0 < det (at0 s j) (at0 s i) p
  | [], _, _, i, j, _, hj => by simp at hj
  | b :: s, hd, ht, 0, j + 1, _, hj => turns_one hd ht j (by simpa using hj)
  | b :: s, hd, ht, i + 1, j + 1, h, hj => turns_two (TurnsC.skip hd ht).2 (TurnsC.skip hd ht).1 i j (by omega) (by simpa using hj)
theorem turns_all {k l : Int} : ∀ {s}, DecC k l s → TurnsC s → ∀ i j m, i < j → j < m → m < s.length → 0 < det (at0 s m) (at0 s j) (at0 s i)
  | [], _, _, i, j, m, _, _, hm => by simp at hm
  | p :: s, hd, ht, 0, j + 1, m + 1, h1, h2, hm => turns_two hd ht j m (by omega) (by simpa using hm)
  | p :: s, hd, ht, i + 1, j + 1, m + 1, h1, h2, hm => turns_all (s := s) hd.tail ht.tail i j m (by omega) (by omega) (by simpa using hm)
theorem EdgesC.at_ {P : Pt → Pt → Prop} : ∀ {s}, EdgesC P s → ∀ i, i + 1 < s.length → P (at0 s (i + 1)) (at0 s i)
  | [], _, i, h => by simp at h
  | [_], _, i, h => by simp at h
  | b :: a :: s, h, 0, _ => h.1
  | b :: a :: s, h, i + 1, hi => EdgesC.at_ (s := a :: s) h.2 i (by simpa using hi)

/-- A path of points that turns left, everything on its left side. -/
structure Chain (k l : Int) (pts c : List Pt) : Prop where
  asc : ∀ i, i + 1 < c.length → lin k l (at0 c i) < lin k l (at0 c (i + 1))
  strict : ∀ i j m, i < j → j < m → m < c.length → 0 < det (at0 c i) (at0 c j) (at0 c m)
  left : ∀ i, i + 1 < c.length → ∀ q ∈ pts, 0 ≤ det (at0 c i) (at0 c (i + 1)) q
  sub : ∀ q ∈ c, q ∈ pts
theorem at0_reverse {s : List Pt} {i : Nat} (h : i < s.length) : at0 s.reverse i = at0 s (s.length - 1 - i) := by
  rw [at0_eq (by simpa using h), at0_eq (by omega), List.getElem_reverse]
theorem StackC.chain {k l : Int} {pts s : List Pt} (h : StackC k l pts s) : Chain k l pts s.reverse := by
  refine ⟨fun i hi => ?_, fun i j m hij hjm hm => ?_, fun i hi q hq => ?_, fun q hq => h.sub q (by simpa using hq)⟩
  · rw [List.length_reverse] at hi
    rw [at0_reverse (by omega), at0_reverse (by omega)]
    have := h.dec.at_ (s.length - 1 - (i + 1)) (by omega)
    rwa [show s.length - 1 - (i + 1) + 1 = s.length - 1 - i by omega] at this
  · rw [List.length_reverse] at hm
    rw [at0_reverse (by omega), at0_reverse (by omega), at0_reverse (by omega)]
    exact turns_all h.dec h.turns _ _ _ (by omega) (by omega) (by omega)
  · rw [List.length_reverse] at hi
    rw [at0_reverse (by omega), at0_reverse (by omega)]
    have := h.left.at_ (s.length - 1 - (i + 1)) (by omega) q hq
    rwa [show s.length - 1 - (i + 1) + 1 = s.length - 1 - i by omega] at this

/-- A corner lies on no edge of the opposite chain. -/
theorem corner_off {k l : Int} {x y a q b : Pt} (hxy : lin k l x < lin k l y) (h1 : lin k l b < lin k l q) (h2 : lin k l q < lin k l a) (ht : 0 < det a q b)
    (hax : 0 ≤ det a q x) (hbx : 0 ≤ det q b x) (hay : 0 ≤ det a q y) (hby : 0 ≤ det q b y) (ga : 0 ≤ det x y a) (gq : 0 ≤ det x y q) (gb : 0 ≤ det x y b) : 0 < det x y q := by
  rcases Int.lt_or_le 0 (det x y q) with h | h
  · exact h
  · exfalso
    have g0 : det x y q = 0 := by omega
    rcases Int.lt_or_le 0 (det x y b) with hb | hb
    · rcases Int.lt_or_le 0 (det x y a) with ha | ha
      · have ex : det a q b * det x y x = det a q x * (det x y b) + det q b x * (det x y a) + det x y q * (det a q b - det a q x - det q b x) := by unfold det; grind
        have ey : det a q b * det x y y = det a q y * (det x y b) + det q b y * (det x y a) + det x y q * (det a q b - det a q y - det q b y) := by unfold det; grind
        rw [det_self, g0] at ex
        rw [det_end, g0] at ey
        have m1 := Int.mul_nonneg hax (Int.le_of_lt hb)
        have m2 := Int.mul_nonneg hbx (Int.le_of_lt ha)
        have m3 := Int.mul_nonneg hay (Int.le_of_lt hb)
        have m4 := Int.mul_nonneg hby (Int.le_of_lt ha)
        have z1 : det x y b * det a q x = 0 := by rw [Int.mul_comm]; omega
        have z2 : det x y a * det q b x = 0 := by rw [Int.mul_comm]; omega
        have z3 : det x y b * det a q y = 0 := by rw [Int.mul_comm]; omega
        have z4 : det x y a * det q b y = 0 := by rw [Int.mul_comm]; omega
        have y1 := zero_of_mul hb z1
        have y2 := zero_of_mul ha z2
        have y3 := zero_of_mul hb z3
        have y4 := zero_of_mul ha z4
        have e : det a q b * (lin k l y - lin k l x) = (det a q y - det a q x) * (lin k l b - lin k l q) + (det q b y - det q b x) * (lin k l a - lin k l q) := by unfold det lin; grind
        rw [y1, y2, y3, y4] at e
        have := Int.mul_pos ht (show 0 < lin k l y - lin k l x by omega)
        omega
      · have ga0 : det x y a = 0 := by omega
        have e : (lin k l y - lin k l x) * det a q b = (lin k l q - lin k l a) * (det x y b) + (lin k l a - lin k l b) * det x y q + (lin k l b - lin k l q) * det x y a := by unfold det lin; grind
        rw [g0, ga0] at e
        have m1 := Int.mul_pos (show 0 < lin k l y - lin k l x by omega) ht
        have m2 : (lin k l q - lin k l a) * det x y b ≤ 0 := Int.mul_nonpos_of_nonpos_of_nonneg (by omega) gb
        omega
    · have gb0 : det x y b = 0 := by omega
      have e : (lin k l y - lin k l x) * det a q b = (lin k l q - lin k l a) * (det x y b) + (lin k l a - lin k l b) * det x y q + (lin k l b - lin k l q) * det x y a := by unfold det lin; grind
      rw [g0, gb0] at e
      have m1 := Int.mul_pos (show 0 < lin k l y - lin k l x by omega) ht
      have m2 : (lin k l b - lin k l q) * det x y a ≤ 0 := Int.mul_nonpos_of_nonpos_of_nonneg (by omega) ga
      omega
end Go.Proofs.YtkpnffokjpgalaaGreat
/- The ring out of a lower and an upper chain; what a hull is; linear forms over a hull. No program here. -/
namespace Go.Proofs.YtkpnffokjpgalaaGreat
set_option linter.unusedVariables false
set_option linter.unusedSimpArgs false

/-- The vertex i of a ring. -/
def rv (r : List Pt) (i : Nat) : Pt := at0 r (i % r.length)
structure IsHull (pts r : List Pt) : Prop where
  three : 3 ≤ r.length
  convex : ∀ i k, i < r.length → k < r.length → k ≠ i → k ≠ (i + 1) % r.length → 0 < det (at0 r i) (rv r (i + 1)) (at0 r k)
  left : ∀ i, i < r.length → ∀ q ∈ pts, 0 ≤ det (at0 r i) (rv r (i + 1)) q
  sub : ∀ q ∈ r, q ∈ pts

theorem cone (k l : Int) {a v b q : Pt} (h : 0 < det a v b) (h1 : 0 ≤ det a v q) (h2 : 0 ≤ det v b q) (ha : lin k l v ≤ lin k l a) (hb : lin k l v ≤ lin k l b) : lin k l v ≤ lin k l q := by
  have e : det a v b * (lin k l q - lin k l v) = det a v q * (lin k l b - lin k l v) + det v b q * (lin k l a - lin k l v) := by unfold det lin; grind
  have m1 : 0 ≤ det a v q * (lin k l b - lin k l v) := Int.mul_nonneg h1 (by omega)
  have m2 : 0 ≤ det v b q * (lin k l a - lin k l v) := Int.mul_nonneg h2 (by omega)
  have := nonneg_of_mul (b := lin k l q - lin k l v) h (by rw [e]; omega)
  omega
theorem exists_least (f : Pt → Int) : ∀ {r : List Pt}, r ≠ [] → ∃ i, i < r.length ∧ ∀ q ∈ r, f (at0 r i) ≤ f q
  | [], h => absurd rfl h
  | [a], _ => ⟨0, by simp, fun q hq => by simp at hq; subst hq; simp [at0]⟩
  | a :: b :: r, _ => by
    obtain ⟨i, hi, hm⟩ := exists_least f (r := b :: r) (by simp)
    rcases Int.lt_or_le (f (at0 (b :: r) i)) (f a) with h | h
    · refine ⟨i + 1, by simpa using hi, fun q hq => ?_⟩
      show f (at0 (b :: r) i) ≤ f q
      rcases List.mem_cons.1 hq with rfl | hq
      · omega
      · exact hm q hq
    · refine ⟨0, by simp, fun q hq => ?_⟩
      show f a ≤ f q
      rcases List.mem_cons.1 hq with rfl | hq
      · omega
      · have := hm q hq; omega
/-- The corner at a vertex: the vertices ahead of and behind it. -/
theorem IsHull.corner {pts r : List Pt} (h : IsHull pts r) {i : Nat} (hi : i < r.length) : ∃ j, j < r.length ∧ rv r (j + 1) = at0 r i ∧ 0 < det (at0 r j) (at0 r i) (rv r (i + 1)) ∧ (∀ q ∈ pts, 0 ≤ det (at0 r j) (at0 r i) q) ∧ (j + 1) % r.length = i := by
  have h3 := h.three
  obtain ⟨j, hj, hji⟩ : ∃ j, j < r.length ∧ (j + 1) % r.length = i := by
    rcases Nat.eq_zero_or_pos i with rfl | hp
    · exact ⟨r.length - 1, by omega, by rw [show r.length - 1 + 1 = r.length by omega, Nat.mod_self]⟩
    · exact ⟨i - 1, by omega, by rw [show i - 1 + 1 = i by omega, Nat.mod_eq_of_lt hi]⟩
  have e : rv r (j + 1) = at0 r i := by unfold rv; rw [hji]
  refine ⟨j, hj, e, ?_, fun q hq => by have := h.left j hj q hq; rwa [e] at this, hji⟩
  have hn : (i + 1) % r.length < r.length := Nat.mod_lt _ (by omega)
  have := h.convex j ((i + 1) % r.length) hj hn ?_ ?_
  · rwa [e] at this
  · intro he
    rcases Nat.lt_or_ge (i + 1) r.length with h1 | h1
    · rw [Nat.mod_eq_of_lt h1] at he
      rcases Nat.lt_or_ge (j + 1) r.length with h2 | h2
      · rw [Nat.mod_eq_of_lt h2] at hji; omega
      · have : j + 1 = r.length := by omega
        rw [this, Nat.mod_self] at hji; omega
    · have : i + 1 = r.length := by omega
      rw [this, Nat.mod_self] at he
      rw [← he, Nat.mod_eq_of_lt (by omega)] at hji; omega
  · rw [hji]
    intro he
    rcases Nat.lt_or_ge (i + 1) r.length with h1 | h1
    · rw [Nat.mod_eq_of_lt h1] at he; omega
    · have : i + 1 = r.length := by omega
      rw [this, Nat.mod_self] at he; omega
/-- A linear form is least at a vertex. -/
theorem IsHull.least {pts r : List Pt} (h : IsHull pts r) (k l : Int) : ∃ i, i < r.length ∧ ∀ q, q ∈ pts → lin k l (at0 r i) ≤ lin k l q := by
  have h3 := h.three
  obtain ⟨i, hi, hm⟩ := exists_least (lin k l) (r := r) (by intro e; rw [e] at h3; simp at h3)
  obtain ⟨j, hj, e, hc, hl, -⟩ := h.corner hi
  refine ⟨i, hi, fun q hq => cone k l hc (hl q hq) (h.left i hi q hq) (hm _ (at0_mem hj)) (hm _ (at0_mem (Nat.mod_lt _ (by omega))))⟩
/-- What lies to the left of all vertices' ... a form that is not negative at the vertices is so at all points. -/
theorem lin_of_det (a b : Pt) : ∃ k l c : Int, ∀ q, det a b q = lin k l q + c :=
  ⟨-(b.2 - a.2), b.1 - a.1, -(b.1 - a.1) * a.2 + (b.2 - a.2) * a.1, fun q => by unfold det lin; grind⟩
theorem IsHull.side {pts r : List Pt} (h : IsHull pts r) (a b : Pt) (hv : ∀ v ∈ r, 0 ≤ det a b v) : ∀ q ∈ pts, 0 ≤ det a b q := by
  obtain ⟨k, l, c, e⟩ := lin_of_det a b
  obtain ⟨i, hi, hm⟩ := h.least k l
  intro q hq
  have h1 := hm q hq
  have h2 := hv _ (at0_mem hi)
  rw [e] at h2 ⊢
  omega

/-- The ring of two chains. -/
theorem hull_ring {k l : Int} {pts lo up : List Pt} (hlo : Chain k l pts lo) (hup : Chain (-k) (-l) pts up) (h2 : 2 ≤ lo.length) (hu2 : 2 ≤ up.length)
    (hj : at0 up 0 = at0 lo (lo.length - 1)) (hz : at0 up (up.length - 1) = at0 lo 0) (h3 : 3 ≤ lo.length - 1 + (up.length - 1)) : IsHull pts (lo.dropLast ++ up.dropLast) := by
  obtain ⟨p, hp⟩ : ∃ p, lo.length = p + 1 := ⟨lo.length - 1, by omega⟩
  obtain ⟨m, hm⟩ : ∃ m, up.length = m + 1 := ⟨up.length - 1, by omega⟩
  have hn : (lo.dropLast ++ up.dropLast).length = p + m := by simp [hp, hm]
  have g1 : ∀ i, i < p → at0 (lo.dropLast ++ up.dropLast) i = at0 lo i := fun i hi => by
    rw [at0_eq (by omega), at0_eq (by omega), List.getElem_append_left (by simp; omega), List.getElem_dropLast]
  have g2 : ∀ j, j < m → at0 (lo.dropLast ++ up.dropLast) (p + j) = at0 up j := fun j hj' => by
    rw [at0_eq (by omega), at0_eq (by omega), List.getElem_append_right (by simp [hp]), List.getElem_dropLast]
    congr 1
    simp [hp]
  rw [hp] at hj; rw [hm] at hz
  simp only [Nat.add_sub_cancel] at hj hz
  have g3 : ∀ i, i ≤ p → at0 (lo.dropLast ++ up.dropLast) i = at0 lo i := fun i hi => by
    rcases Nat.lt_or_ge i p with h | h
    · exact g1 i h
    · have : i = p + 0 := by omega
      rw [this, g2 0 (by omega), hj]; rfl
  have g4 : ∀ i, i < p → rv (lo.dropLast ++ up.dropLast) (i + 1) = at0 lo (i + 1) := fun i hi => by
    unfold rv; rw [hn, Nat.mod_eq_of_lt (by omega), g3 _ (by omega)]
  have g5 : ∀ j, j < m → rv (lo.dropLast ++ up.dropLast) (p + j + 1) = at0 up (j + 1) := fun j hj' => by
    unfold rv; rw [hn]
    rcases Nat.lt_or_ge (j + 1) m with h | h
    · rw [Nat.mod_eq_of_lt (by omega), show p + j + 1 = p + (j + 1) by omega, g2 _ h]
    · have : j + 1 = m := by omega
      rw [show p + j + 1 = p + m by omega, Nat.mod_self, g1 0 (by omega), this, hz]
  have hul : ∀ q : Pt, lin (-k) (-l) q = -lin k l q := fun q => by unfold lin; grind
  refine ⟨by omega, fun i kk hi hk hki hk1 => ?_, fun i hi q hq => ?_, fun q hq => ?_⟩
  · rw [hn] at hi hk hk1
    rcases Nat.lt_or_ge i p with hip | hip
    · rw [g1 i hip, g4 i hip]
      rw [Nat.mod_eq_of_lt (by omega)] at hk1
      rcases Nat.lt_or_ge p kk with hkp | hkp
      · obtain ⟨j, rfl⟩ : ∃ j, kk = p + j := ⟨kk - p, by omega⟩
        rw [g2 j (by omega)]
        have u1 := hup.asc (j - 1) (by omega)
        have u2 := hup.asc j (by omega)
        rw [hul, hul] at u1 u2
        rw [show j - 1 + 1 = j by omega] at u1
        have l1 := hup.left (j - 1) (by omega)
        rw [show j - 1 + 1 = j by omega] at l1
        have l2 := hup.left j (by omega)
        have lm1 : at0 lo i ∈ pts := hlo.sub _ (at0_mem (by omega))
        have lm2 : at0 lo (i + 1) ∈ pts := hlo.sub _ (at0_mem (by omega))
        refine corner_off (k := k) (l := l) (a := at0 up (j - 1)) (b := at0 up (j + 1)) (hlo.asc i (by omega)) (by omega) (by omega) (hup.strict _ _ _ (by omega) (by omega) (by omega)) (l1 _ lm1) (l2 _ lm1) (l1 _ lm2) (l2 _ lm2) ?_ ?_ ?_
        all_goals exact hlo.left i (by omega) _ (hup.sub _ (at0_mem (by omega)))
      · rw [g3 kk hkp]
        rcases Nat.lt_or_ge kk i with h | h
        · rw [← det_cycle]; exact hlo.strict _ _ _ h (by omega) (by omega)
        · exact hlo.strict _ _ _ (by omega) (by omega) (by omega)
    · obtain ⟨j, rfl⟩ : ∃ j, i = p + j := ⟨i - p, by omega⟩
      rw [g2 j (by omega), g5 j (by omega)]
      rcases Nat.lt_or_ge kk p with hkp | hkp
      · rw [g1 kk hkp]
        rcases Nat.eq_zero_or_pos kk with rfl | hk0
        · rw [← hz]
          have : j + 1 ≠ m := by
            intro e
            apply hk1
            rw [show p + j + 1 = p + m by omega, Nat.mod_self]
          exact hup.strict _ _ _ (by omega) (by omega) (by omega)
        · have u1 := hlo.asc (kk - 1) (by omega)
          have u2 := hlo.asc kk (by omega)
          rw [show kk - 1 + 1 = kk by omega] at u1
          have l1 := hlo.left (kk - 1) (by omega)
          rw [show kk - 1 + 1 = kk by omega] at l1
          have l2 := hlo.left kk (by omega)
          have lm1 : at0 up j ∈ pts := hup.sub _ (at0_mem (by omega))
          have lm2 : at0 up (j + 1) ∈ pts := hup.sub _ (at0_mem (by omega))
          refine corner_off (k := -k) (l := -l) (a := at0 lo (kk - 1)) (b := at0 lo (kk + 1)) (hup.asc j (by omega)) (by rw [hul, hul]; omega) (by rw [hul, hul]; omega) (hlo.strict _ _ _ (by omega) (by omega) (by omega)) (l1 _ lm1) (l2 _ lm1) (l1 _ lm2) (l2 _ lm2) ?_ ?_ ?_
          all_goals exact hup.left j (by omega) _ (hlo.sub _ (at0_mem (by omega)))
      · obtain ⟨j', rfl⟩ : ∃ j', kk = p + j' := ⟨kk - p, by omega⟩
        rw [g2 j' (by omega)]
        have hne : j' ≠ j + 1 := by
          intro e
          apply hk1
          rw [Nat.mod_eq_of_lt (by omega)]; omega
        rcases Nat.lt_or_ge j' j with h | h
        · rw [← det_cycle]; exact hup.strict _ _ _ h (by omega) (by omega)
        · exact hup.strict _ _ _ (by omega) (by omega) (by omega)
  · rw [hn] at hi
    rcases Nat.lt_or_ge i p with hip | hip
    · rw [g1 i hip, g4 i hip]; exact hlo.left i (by omega) q hq
    · obtain ⟨j, rfl⟩ : ∃ j, i = p + j := ⟨i - p, by omega⟩
      rw [g2 j (by omega), g5 j (by omega)]; exact hup.left j (by omega) q hq
  · rcases List.mem_append.1 hq with h | h
    · exact hlo.sub _ (List.dropLast_subset _ h)
    · exact hup.sub _ (List.dropLast_subset _ h)
/-- Two chains of one edge: all points on a line. -/
theorem line_all {k l : Int} {a b u v w : Pt} (hab : lin k l a < lin k l b) (hu : det a b u = 0) (hv : det a b v = 0) (hw : det a b w = 0) : det u v w = 0 := by
  have e : (lin k l b - lin k l a) * det u v w = (lin k l v - lin k l u) * (det a b w - det a b u) - (lin k l w - lin k l u) * (det a b v - det a b u) := by unfold det lin; grind
  rw [hu, hv, hw] at e
  exact zero_of_mul (a := lin k l b - lin k l a) (by omega) (by rw [e]; simp)
end Go.Proofs.YtkpnffokjpgalaaGreat
/- The vertex behind a vertex is found by turning; a hull is determined by its points and its first vertex. No program here. -/
namespace Go.Proofs.YtkpnffokjpgalaaGreat
set_option linter.unusedVariables false
set_option linter.unusedSimpArgs false

theorem sq_nonneg (a : Int) : 0 ≤ a * a := by
  rcases Int.lt_or_le a 0 with h | h
  · have := Int.mul_nonneg (a := -a) (b := -a) (by omega) (by omega); rwa [Int.neg_mul_neg] at this
  · exact Int.mul_nonneg h h
def dd (a q : Pt) : Int := (q.1 - a.1) * (q.1 - a.1) + (q.2 - a.2) * (q.2 - a.2)
theorem IsHull.next_ne {pts r : List Pt} (h : IsHull pts r) {i : Nat} (hi : i < r.length) : at0 r i ≠ rv r (i + 1) := by
  obtain ⟨j, hj, e, hc, -, -⟩ := h.corner hi
  intro he
  rw [← he, det_end] at hc
  omega
theorem IsHull.distinct {pts r : List Pt} (h : IsHull pts r) {i k : Nat} (hi : i < r.length) (hk : k < r.length) (hne : i ≠ k) : at0 r i ≠ at0 r k := by
  intro he
  by_cases h1 : k = (i + 1) % r.length
  · apply h.next_ne hi
    unfold rv; rw [← h1]; exact he
  · have := h.convex i k hi hk (Ne.symm hne) h1
    rw [← he, det_self] at this
    omega
/-- A point on an edge: its far end, or less far. -/
theorem IsHull.on_edge {pts r : List Pt} (h : IsHull pts r) {i : Nat} (hi : i < r.length) {q : Pt} (hq : q ∈ pts) (h0 : det (at0 r i) (rv r (i + 1)) q = 0) : q = rv r (i + 1) ∨ dd (at0 r i) q < dd (at0 r i) (rv r (i + 1)) := by
  have h3 := h.three
  obtain ⟨j, hj, -, hA, hl, -⟩ := h.corner hi
  have hn : (i + 1) % r.length < r.length := Nat.mod_lt _ (by omega)
  have hB : 0 < det (rv r (i + 1)) (rv r ((i + 1) % r.length + 1)) (at0 r i) := by
    refine h.convex _ i hn hi ?_ ?_
    · intro e; exact h.next_ne hi (by unfold rv; rw [← e])
    · intro e
      rcases Nat.lt_or_ge (i + 1) r.length with h1 | h1
      · rw [Nat.mod_eq_of_lt h1] at e
        rcases Nat.lt_or_ge (i + 1 + 1) r.length with h2 | h2
        · rw [Nat.mod_eq_of_lt h2] at e; omega
        · have : i + 1 + 1 = r.length := by omega
          rw [this, Nat.mod_self] at e; omega
      · have : i + 1 = r.length := by omega
        rw [this, Nat.mod_self, Nat.mod_eq_of_lt (by omega)] at e; omega
  have ha := hl q hq
  have hb := h.left _ hn q hq
  have hne := h.next_ne hi
  rw [show at0 r ((i + 1) % r.length) = rv r (i + 1) from rfl] at hb
  generalize rv r ((i + 1) % r.length + 1) = M at *
  generalize rv r (i + 1) = N at *
  generalize at0 r i = P at *
  generalize at0 r j = L at *
  clear hl hn h3
  have e1 : det L P N * (q.1 - P.1) = det L P q * (N.1 - P.1) := by
    have : det L P N * (q.1 - P.1) - det L P q * (N.1 - P.1) = (L.1 - P.1) * det P N q := by unfold det; grind
    rw [h0] at this; simp at this; omega
  have e2 : det L P N * (q.2 - P.2) = det L P q * (N.2 - P.2) := by
    have : det L P N * (q.2 - P.2) - det L P q * (N.2 - P.2) = (L.2 - P.2) * det P N q := by unfold det; grind
    rw [h0] at this; simp at this; omega
  have f1 : det N M P * (q.1 - N.1) = det N M q * (P.1 - N.1) := by
    have : det N M P * (q.1 - N.1) - det N M q * (P.1 - N.1) = (M.1 - N.1) * det P N q := by unfold det; grind
    rw [h0] at this; simp at this; omega
  have f2 : det N M P * (q.2 - N.2) = det N M q * (P.2 - N.2) := by
    have : det N M P * (q.2 - N.2) - det N M q * (P.2 - N.2) = (M.2 - N.2) * det P N q := by unfold det; grind
    rw [h0] at this; simp at this; omega
  generalize det L P N = A at *
  generalize det L P q = a at *
  generalize det N M P = B at *
  generalize det N M q = b at *
  have g1 : (B * (a - A) + A * b) * (N.1 - P.1) = 0 := by grind
  have g2 : (B * (a - A) + A * b) * (N.2 - P.2) = 0 := by grind
  have hz : B * (a - A) + A * b = 0 := by
    rcases Int.mul_eq_zero.1 g1 with h | h
    · exact h
    · rcases Int.mul_eq_zero.1 g2 with h' | h'
      · exact h'
      · exact absurd (Prod.ext (by omega) (by omega) : P = N) hne
  have hle : a ≤ A := by
    rcases Int.lt_or_le A a with hlt | hle
    · have m1 := Int.mul_pos hB (show 0 < a - A by omega)
      have m2 := Int.mul_nonneg (Int.le_of_lt hA) hb
      omega
    · exact hle
  rcases Int.lt_or_le a A with hlt | hge
  · right
    have hdd : 0 < dd P N := by
      unfold dd
      rcases Int.lt_or_le 0 ((N.1 - P.1) * (N.1 - P.1)) with h | h
      · have := sq_nonneg (N.2 - P.2)
        omega
      · have h1 := sq_nonneg (N.1 - P.1)
        have h2 := sq_nonneg (N.2 - P.2)
        have z1 : (N.1 - P.1) * (N.1 - P.1) = 0 := by omega
        rcases Int.lt_or_le 0 ((N.2 - P.2) * (N.2 - P.2)) with h' | h'
        · omega
        · have z2 : (N.2 - P.2) * (N.2 - P.2) = 0 := by omega
          have y1 : N.1 - P.1 = 0 := by rcases Int.mul_eq_zero.1 z1 with h | h <;> exact h
          have y2 : N.2 - P.2 = 0 := by rcases Int.mul_eq_zero.1 z2 with h | h <;> exact h
          exact absurd (Prod.ext (by omega) (by omega) : P = N) hne
    have e : A * A * dd P q = a * a * dd P N := by unfold dd; grind
    have hAA : a * a < A * A := by
      have : 0 < (A - a) * (A + a) := Int.mul_pos (by omega) (by omega)
      have e : (A - a) * (A + a) = A * A - a * a := by grind
      omega
    have m := Int.mul_pos (show 0 < A * A - a * a by omega) hdd
    have e' : (A * A - a * a) * dd P N = A * A * (dd P N - dd P q) := by grind
    rw [e'] at m
    have := pos_of_mul (Int.mul_pos hA hA) m
    omega
  · left
    have hAa : a = A := by omega
    subst hAa
    have y1 : q.1 - P.1 = N.1 - P.1 := Int.eq_of_mul_eq_mul_left (Int.ne_of_gt hA) e1
    have y2 : q.2 - P.2 = N.2 - P.2 := Int.eq_of_mul_eq_mul_left (Int.ne_of_gt hA) e2
    exact Prod.ext (by omega) (by omega)

/-- One step of the search for the next vertex. -/
def nextStep (p q x : Pt) : Pt := if x = p then q else if q = p then x else if det p q x < 0 ∨ det p q x = 0 ∧ dd p q < dd p x then x else q
def nextF (l : List Pt) (p : Pt) : Pt := l.foldl (nextStep p) p
theorem IsHull.step_keep {pts r : List Pt} (h : IsHull pts r) {i : Nat} (hi : i < r.length) {x : Pt} (hx : x ∈ pts) : nextStep (at0 r i) (rv r (i + 1)) x = rv r (i + 1) := by
  unfold nextStep
  have hne := h.next_ne hi
  have hl := h.left i hi x hx
  by_cases h1 : x = at0 r i
  · rw [if_pos h1]
  · rw [if_neg h1, if_neg (Ne.symm hne)]
    split
    · rename_i hc
      rcases hc with hc | ⟨hc, hd⟩
      · omega
      · rcases h.on_edge hi hx hc with h2 | h2
        · exact h2
        · omega
    · rfl
theorem IsHull.step_find {pts r : List Pt} (h : IsHull pts r) {i : Nat} (hi : i < r.length) {q : Pt} (hq : q ∈ pts) : nextStep (at0 r i) q (rv r (i + 1)) = rv r (i + 1) := by
  unfold nextStep
  have hne := h.next_ne hi
  rw [if_neg (Ne.symm hne)]
  by_cases h1 : q = at0 r i
  · rw [if_pos h1]
  · rw [if_neg h1]
    have hl := h.left i hi q hq
    have e : det (at0 r i) q (rv r (i + 1)) = -det (at0 r i) (rv r (i + 1)) q := by unfold det; grind
    split
    · rfl
    · rename_i hc
      rw [e] at hc
      by_cases h2 : det (at0 r i) (rv r (i + 1)) q = 0
      · rcases h.on_edge hi hq h2 with h3 | h3
        · exact h3
        · exact absurd (Or.inr ⟨by omega, h3⟩) hc
      · exact absurd (Or.inl (by omega)) hc
theorem nextStep_mem {pts : List Pt} {p q x : Pt} (hq : q ∈ pts) (hx : x ∈ pts) : nextStep p q x ∈ pts := by
  unfold nextStep; split
  · exact hq
  · split
    · exact hx
    · split <;> assumption
theorem IsHull.fold_next {pts r : List Pt} (h : IsHull pts r) {i : Nat} (hi : i < r.length) : ∀ (l : List Pt) (q : Pt), (∀ x ∈ l, x ∈ pts) → q ∈ pts → (rv r (i + 1) ∈ l ∨ q = rv r (i + 1)) → l.foldl (nextStep (at0 r i)) q = rv r (i + 1)
  | [], q, _, _, hm => by simpa using hm
  | x :: l, q, hl, hq, hm => by
    rw [List.foldl_cons]
    refine h.fold_next hi l _ (fun y hy => hl y (List.mem_cons_of_mem _ hy)) (nextStep_mem hq (hl x (by simp))) ?_
    rcases hm with hm | rfl
    · rcases List.mem_cons.1 hm with rfl | hm
      · right; exact h.step_find hi hq
      · left; exact hm
    · right; exact h.step_keep hi (hl x (by simp))
theorem IsHull.next {pts r : List Pt} (h : IsHull pts r) {i : Nat} (hi : i < r.length) : nextF pts (at0 r i) = rv r (i + 1) :=
  h.fold_next hi pts _ (fun x hx => hx) (h.sub _ (at0_mem hi)) (.inl (h.sub _ (at0_mem (Nat.mod_lt _ (by have := h.three; omega)))))
theorem IsHull.next' {pts r : List Pt} (h : IsHull pts r) (i : Nat) : nextF pts (rv r i) = rv r (i + 1) := by
  have h3 := h.three
  have hi : i % r.length < r.length := Nat.mod_lt _ (by omega)
  have := h.next hi
  unfold rv at this ⊢
  rw [this, Nat.mod_add_mod]
/-- Two hulls of the same points with the same first vertex are the same. -/
theorem IsHull.unique {pts r s : List Pt} (h : IsHull pts r) (h' : IsHull pts s) (h0 : at0 r 0 = at0 s 0) : r = s := by
  have e : ∀ i, rv r i = rv s i := fun i => by
    induction i with
    | zero => unfold rv; simpa using h0
    | succ i ih => rw [← h.next', ← h'.next', ih]
  have hr := h.three
  have hs := h'.three
  have hlen : r.length = s.length := by
    rcases Nat.lt_trichotomy r.length s.length with hlt | heq | hlt
    · exfalso
      have e1 := e r.length
      unfold rv at e1
      rw [Nat.mod_self, Nat.mod_eq_of_lt hlt, h0] at e1
      exact h'.distinct (by omega) hlt (by omega) e1
    · exact heq
    · exfalso
      have e1 := e s.length
      unfold rv at e1
      rw [Nat.mod_self, Nat.mod_eq_of_lt hlt, ← h0] at e1
      exact h.distinct hlt (by omega) (by omega) e1
  refine List.ext_getElem hlen fun i h1 h2 => ?_
  have := e i
  unfold rv at this
  rw [Nat.mod_eq_of_lt h1, Nat.mod_eq_of_lt h2, at0_eq h1, at0_eq h2] at this
  exact this
/-- Turned round, a hull stays one. -/
theorem IsHull.more {pts pts' r : List Pt} (h : IsHull pts r) (h1 : ∀ q ∈ pts', q ∈ pts) (h2 : ∀ v ∈ r, v ∈ pts') : IsHull pts' r :=
  ⟨h.three, h.convex, fun i hi q hq => h.left i hi q (h1 q hq), h2⟩
end Go.Proofs.YtkpnffokjpgalaaGreat
/- The hull of ascending points out of two chains; its first vertex; points on a line. No program here. -/
namespace Go.Proofs.YtkpnffokjpgalaaGreat
set_option linter.unusedVariables false
set_option linter.unusedSimpArgs false

def lexlt (p q : Pt) : Prop := p.1 < q.1 ∨ p.1 = q.1 ∧ p.2 < q.2
theorem lexlt.ne {p q : Pt} (h : lexlt p q) : p ≠ q := by rintro rfl; rcases h with h | ⟨_, h⟩ <;> omega
theorem lin_lex {M : Int} {p q : Pt} (hp : -M ≤ p.2 ∧ p.2 ≤ M) (hq : -M ≤ q.2 ∧ q.2 ≤ M) (h : lexlt p q) : lin (2 * M + 1) 1 p < lin (2 * M + 1) 1 q := by
  unfold lin
  rcases h with h | ⟨h1, h2⟩
  · have m := Int.mul_le_mul_of_nonneg_left (show 1 ≤ q.1 - p.1 by omega) (show 0 ≤ 2 * M + 1 by omega)
    rw [Int.mul_sub] at m
    omega
  · rw [h1]; omega
theorem lin_neg (k l : Int) (q : Pt) : lin (-k) (-l) q = -lin k l q := by unfold lin; grind
theorem chain_of {k l : Int} {p : Pt} {rest : List Pt} (h : (p :: rest).Pairwise (fun x y => lin k l x < lin k l y)) :
    Chain k l (p :: rest) (chainC [] (p :: rest)).reverse ∧ at0 (chainC [] (p :: rest)).reverse 0 = p ∧ at0 (chainC [] (p :: rest)).reverse ((chainC [] (p :: rest)).reverse.length - 1) = ((p :: rest).getLast (by simp)) ∧ 1 ≤ (chainC [] (p :: rest)).length := by
  have e : chainC [] (p :: rest) = chainC [p] rest := rfl
  rw [e]
  have h0 : StackC k l [p] [p] := ⟨fun q hq => hq, trivial, trivial, trivial, fun z hz q hq => by simp at hz hq; subst hz; subst hq; exact Int.le_refl _⟩
  obtain ⟨h1, h2, h3⟩ := chain_inv h0 (fun q hq => by simp at hq; subst hq; exact Int.le_refl _) (fun q hq _ => by simpa using hq) h
  have hne : chainC [p] rest ≠ [] := by intro e; rw [e] at h2; simp at h2
  have hl : 0 < (chainC [p] rest).length := List.length_pos_iff.2 hne
  refine ⟨(h1.perm (seen' := p :: rest) fun q => by simp [or_comm]).chain, ?_, ?_, hl⟩
  · rw [at0_reverse hl, at0_eq (by omega)]
    rw [List.getLast?_eq_getElem?] at h2
    rw [List.getElem?_eq_getElem (by omega)] at h2
    simpa using h2
  · rw [at0_reverse (by simp; omega), at0_eq (by omega)]
    rw [List.head?_eq_getElem?, List.getElem?_eq_getElem hl, List.getLast?_eq_some_getLast (by simp)] at h3
    simpa using h3
/-- The two chains of ascending points. -/
def lowC (pts : List Pt) : List Pt := (chainC [] pts).reverse
theorem hull_or_line {M : Int} {pts : List Pt} (hM : ∀ q ∈ pts, -M ≤ q.2 ∧ q.2 ≤ M) (hs : pts.Pairwise lexlt) (h2 : 2 ≤ pts.length) :
    2 ≤ (lowC pts).length ∧ 2 ≤ (lowC pts.reverse).length ∧
    ((3 ≤ (lowC pts).length - 1 + ((lowC pts.reverse).length - 1) ∧ IsHull pts ((lowC pts).dropLast ++ (lowC pts.reverse).dropLast) ∧ at0 ((lowC pts).dropLast ++ (lowC pts.reverse).dropLast) 0 = at0 pts 0) ∨
     ((lowC pts).length - 1 + ((lowC pts.reverse).length - 1) < 3 ∧ ∀ u ∈ pts, ∀ v ∈ pts, ∀ w ∈ pts, det u v w = 0)) := by
  have hpw : pts.Pairwise (fun x y => lin (2 * M + 1) 1 x < lin (2 * M + 1) 1 y) := by
    refine List.Pairwise.imp_of_mem ?_ hs
    intro a b ha hb hab
    exact lin_lex (hM a ha) (hM b hb) hab
  have hpr : pts.reverse.Pairwise (fun x y => lin (-(2 * M + 1)) (-1) x < lin (-(2 * M + 1)) (-1) y) := by
    rw [List.pairwise_reverse]
    refine hpw.imp ?_
    intro a b hab
    rw [lin_neg, lin_neg]; omega
  generalize 2 * M + 1 = K at *
  obtain ⟨a, rest, rfl⟩ : ∃ a rest, pts = a :: rest := by
    cases pts with
    | nil => simp at h2
    | cons a rest => exact ⟨a, rest, rfl⟩
  obtain ⟨b, rest', hr⟩ : ∃ b rest', (a :: rest).reverse = b :: rest' := by
    cases h : (a :: rest).reverse with
    | nil => simp at h
    | cons b rest' => exact ⟨b, rest', rfl⟩
  have hlast : (a :: rest).getLast (by simp) = b := by
    have := congrArg List.head? hr
    rw [List.head?_reverse, List.getLast?_eq_some_getLast (by simp)] at this
    simpa using this
  have hlast' : (b :: rest').getLast (by simp) = a := by
    have := congrArg List.getLast? hr
    rw [List.getLast?_reverse] at this
    rw [List.getLast?_eq_some_getLast (by simp)] at this
    simp at this
    exact this.symm
  have hmem : ∀ q, q ∈ a :: rest ↔ q ∈ b :: rest' := fun q => by rw [← hr, List.mem_reverse]
  obtain ⟨c1, s1, e1, l1⟩ := chain_of hpw
  rw [hlast] at e1
  rw [hr] at hpr ⊢
  obtain ⟨c2, s2, e2, l2⟩ := chain_of hpr
  rw [hlast'] at e2
  have hab : lin K 1 a < lin K 1 b := by
    have hb : b ∈ rest := by
      rw [← hlast]
      cases rest with
      | nil => simp at h2
      | cons x r => rw [List.getLast_cons (by simp)]; exact List.getLast_mem _
    exact (List.pairwise_cons.1 hpw).1 b hb
  have hne : a ≠ b := by rintro rfl; omega
  have c2' : Chain (-K) (-1) (a :: rest) (lowC (b :: rest')) := ⟨c2.asc, c2.strict, fun i hi q hq => c2.left i hi q ((hmem q).1 hq), fun q hq => (hmem q).2 (c2.sub q hq)⟩
  have g1 : 2 ≤ (lowC (a :: rest)).length := by
    have hl : (lowC (a :: rest)).length = (chainC [] (a :: rest)).length := by unfold lowC; simp
    rcases Nat.lt_or_ge 1 (lowC (a :: rest)).length with h | h
    · exact h
    · exfalso
      have hz : (chainC [] (a :: rest)).reverse.length - 1 = 0 := by simp; omega
      rw [hz, s1] at e1
      exact hne e1
  have g2 : 2 ≤ (lowC (b :: rest')).length := by
    have hl : (lowC (b :: rest')).length = (chainC [] (b :: rest')).length := by unfold lowC; simp
    rcases Nat.lt_or_ge 1 (lowC (b :: rest')).length with h | h
    · exact h
    · exfalso
      have hz : (chainC [] (b :: rest')).reverse.length - 1 = 0 := by simp; omega
      rw [hz, s2] at e2
      exact hne e2.symm
  refine ⟨g1, g2, ?_⟩
  rcases Nat.lt_or_ge ((lowC (a :: rest)).length - 1 + ((lowC (b :: rest')).length - 1)) 3 with h3 | h3
  · right
    refine ⟨h3, ?_⟩
    have z1 : (lowC (a :: rest)).length = 2 := by omega
    have z2 : (lowC (b :: rest')).length = 2 := by omega
    have t1 : at0 (lowC (a :: rest)) 1 = b := by
      have : (chainC [] (a :: rest)).reverse.length - 1 = 1 := by unfold lowC at z1; rw [z1]
      rw [this] at e1; exact e1
    have t2 : at0 (lowC (b :: rest')) 1 = a := by
      have : (chainC [] (b :: rest')).reverse.length - 1 = 1 := by unfold lowC at z2; rw [z2]
      rw [this] at e2; exact e2
    have hz : ∀ q ∈ a :: rest, det a b q = 0 := by
      intro q hq
      have k1 := c1.left 0 (by show 0 + 1 < (lowC (a :: rest)).length; omega) q hq
      have k2 := c2'.left 0 (by omega) q hq
      rw [s1, show at0 (chainC [] (a :: rest)).reverse (0 + 1) = b from t1] at k1
      rw [show at0 (lowC (b :: rest')) 0 = b from s2, show at0 (lowC (b :: rest')) (0 + 1) = a from t2] at k2
      have := det_swap a b q
      omega
    intro u hu v hv w hw
    exact line_all hab (hz u hu) (hz v hv) (hz w hw)
  · left
    refine ⟨h3, hull_ring (k := K) (l := 1) c1 c2' g1 g2 ?_ ?_ h3, ?_⟩
    · exact s2.trans e1.symm
    · exact e2.trans s1.symm
    · have hl : 0 < (lowC (a :: rest)).dropLast.length := by simp; omega
      have : at0 ((lowC (a :: rest)).dropLast ++ (lowC (b :: rest')).dropLast) 0 = at0 (lowC (a :: rest)) 0 := by
        rw [at0_eq (by simp; omega), at0_eq (by omega), List.getElem_append_left hl, List.getElem_dropLast]
      rw [this]
      exact s1
/-- A hull and its first vertex. -/
structure HullR (pts r : List Pt) : Prop where
  hull : IsHull pts r
  first : ∀ q ∈ pts, q = at0 r 0 ∨ lexlt (at0 r 0) q
theorem lexlt.asymm {p q : Pt} (h : lexlt p q) (h' : lexlt q p) : False := by unfold lexlt at *; omega
theorem HullR.unique {pts r s : List Pt} (h : HullR pts r) (h' : HullR pts s) : r = s := by
  refine h.hull.unique h'.hull ?_
  have hr := h.hull.three
  have hs := h'.hull.three
  rcases h.first _ (h'.hull.sub _ (at0_mem (i := 0) (by omega))) with e | h1
  · exact e.symm
  · rcases h'.first _ (h.hull.sub _ (at0_mem (i := 0) (by omega))) with e | h2
    · exact e
    · exact (h1.asymm h2).elim
theorem HullR.not_line {pts r : List Pt} (h : IsHull pts r) : ∃ u ∈ pts, ∃ v ∈ pts, ∃ w ∈ pts, det u v w ≠ 0 := by
  have h3 := h.three
  obtain ⟨j, hj, -, hc, -, -⟩ := h.corner (i := 0) (by omega)
  exact ⟨at0 r j, h.sub _ (at0_mem hj), at0 r 0, h.sub _ (at0_mem (i := 0) (by omega)), rv r (0 + 1), h.sub _ (at0_mem (Nat.mod_lt _ (by omega))), by omega⟩
end Go.Proofs.YtkpnffokjpgalaaGreat
/- Layer 10 (plain): the hull that begins with its least vertex, by Y and then X; when all points lie on a line. -/
namespace Go.Proofs.YtkpnffokjpgalaaGreat
set_option linter.unusedVariables false
set_option linter.unusedSimpArgs false

theorem mod_two {n x : Nat} (h : x < 2 * n) : x % n = if x < n then x else x - n := by
  split
  · exact Nat.mod_eq_of_lt (by assumption)
  · rw [Nat.mod_eq_sub_mod (by omega), Nat.mod_eq_of_lt (by omega)]
/-- A ring that begins with another vertex. -/
def rotL (k : Nat) (r : List Pt) : List Pt := r.drop k ++ r.take k
theorem rotL_length {k : Nat} {r : List Pt} (hk : k ≤ r.length) : (rotL k r).length = r.length := by
  unfold rotL; rw [List.length_append, List.length_drop, List.length_take]; omega
theorem rot_at {k i : Nat} {r : List Pt} (hk : k < r.length) (hi : i < r.length) : at0 (rotL k r) i = at0 r ((k + i) % r.length) := by
  rw [at0_eq (by rw [rotL_length (by omega)]; exact hi), mod_two (by omega)]
  unfold rotL
  by_cases h : k + i < r.length
  · rw [if_pos h, List.getElem_append_left (by rw [List.length_drop]; omega), List.getElem_drop, at0_eq h]
  · rw [if_neg h, List.getElem_append_right (by rw [List.length_drop]; omega), List.getElem_take, at0_eq (by omega)]
    congr 1
    rw [List.length_drop]; omega
theorem rot_rv {k i : Nat} {r : List Pt} (hk : k < r.length) (hi : i < r.length) : rv (rotL k r) (i + 1) = rv r ((k + i) % r.length + 1) := by
  unfold rv
  rw [rotL_length (by omega), rot_at hk (Nat.mod_lt _ (by omega))]
  congr 1
  rw [mod_two (n := r.length) (x := i + 1) (by omega), mod_two (n := r.length) (x := k + i) (by omega)]
  by_cases h1 : i + 1 < r.length <;> by_cases h2 : k + i < r.length <;> simp only [h1, h2, if_true, if_false] <;>
    (rw [mod_two (by omega), mod_two (by omega)]; split <;> split <;> omega)
theorem IsHull.rot {pts r : List Pt} (h : IsHull pts r) {k : Nat} (hk : k < r.length) : IsHull pts (rotL k r) := by
  have hl := rotL_length (Nat.le_of_lt hk)
  refine ⟨by rw [hl]; exact h.three, fun i m hi hm h1 h2 => ?_, fun i hi q hq => ?_, fun q hq => h.sub q ?_⟩
  · rw [hl] at hi hm h2
    rw [rot_at hk hi, rot_at hk hm, rot_rv hk hi]
    refine h.convex _ _ (Nat.mod_lt _ (by omega)) (Nat.mod_lt _ (by omega)) ?_ ?_
    · rw [mod_two (by omega), mod_two (by omega)]; split <;> split <;> omega
    · intro e
      apply h2
      rw [mod_two (n := r.length) (x := k + m) (by omega), mod_two (n := r.length) (x := k + i) (by omega)] at e
      rw [mod_two (by omega)]
      revert e
      split <;> split <;> (rw [mod_two (by omega)]; split <;> split <;> omega)
  · rw [hl] at hi
    rw [rot_at hk hi, rot_rv hk hi]
    exact h.left _ (Nat.mod_lt _ (by omega)) q hq
  · unfold rotL at hq
    rcases List.mem_append.1 hq with h | h
    · exact List.mem_of_mem_drop h
    · exact List.mem_of_mem_take h
def lexy (p q : Pt) : Prop := p.2 < q.2 ∨ p.2 = q.2 ∧ p.1 < q.1
theorem lexy.asymm {p q : Pt} (h : lexy p q) (h' : lexy q p) : False := by unfold lexy at *; omega
theorem lexy_tri (p q : Pt) : lexy p q ∨ p = q ∨ lexy q p := by
  obtain ⟨a, b⟩ := p
  obtain ⟨c, d⟩ := q
  unfold lexy
  simp only [Prod.mk.injEq]
  omega
theorem lin_lexy {M : Int} {p q : Pt} (hp : -M ≤ p.1 ∧ p.1 ≤ M) (hq : -M ≤ q.1 ∧ q.1 ≤ M) (h : lin 1 (2 * M + 1) p ≤ lin 1 (2 * M + 1) q) : p = q ∨ lexy p q := by
  rcases lexy_tri p q with h1 | h1 | h1
  · exact .inr h1
  · exact .inl h1
  · exfalso
    have : lexlt (q.2, q.1) (p.2, p.1) := h1
    have h2 := lin_lex (M := M) (p := (q.2, q.1)) (q := (p.2, p.1)) hq hp this
    unfold lin at *
    simp only at h2
    omega
/-- A hull and its first vertex, the least one by Y and then X. -/
structure HullY (pts r : List Pt) : Prop where
  hull : IsHull pts r
  first : ∀ q ∈ pts, at0 r 0 = q ∨ lexy (at0 r 0) q
theorem HullY.unique {pts r s : List Pt} (h : HullY pts r) (h' : HullY pts s) : r = s := by
  refine h.hull.unique h'.hull ?_
  have hr := h.hull.three
  have hs := h'.hull.three
  rcases h.first _ (h'.hull.sub _ (at0_mem (i := 0) (by omega))) with e | h1
  · exact e
  · rcases h'.first _ (h.hull.sub _ (at0_mem (i := 0) (by omega))) with e | h2
    · exact e.symm
    · exact (h1.asymm h2).elim
theorem HullY.more {pts pts' r : List Pt} (h : HullY pts r) (h1 : ∀ q ∈ pts', q ∈ pts) (h2 : ∀ v ∈ r, v ∈ pts') : HullY pts' r := ⟨h.hull.more h1 h2, fun q hq => h.first q (h1 q hq)⟩
theorem begin_hull {M : Int} {pts r : List Pt} (hM : ∀ q ∈ pts, -M ≤ q.1 ∧ q.1 ≤ M) (h : IsHull pts r) {k : Nat} (hk : k < r.length) (hl : ∀ j, j < r.length → ¬ lexy (at0 r j) (at0 r k)) : HullY pts (rotL k r) := by
  refine ⟨h.rot hk, fun q hq => ?_⟩
  rw [rot_at hk (by omega), Nat.add_zero, Nat.mod_eq_of_lt hk]
  have hkm := h.sub _ (at0_mem hk)
  obtain ⟨i, hi, hm⟩ := h.least 1 (2 * M + 1)
  have him := h.sub _ (at0_mem hi)
  have e : at0 r i = at0 r k := by
    rcases lin_lexy (hM _ him) (hM _ hkm) (hm _ hkm) with e | e
    · exact e
    · exact absurd e (hl i hi)
  rw [e] at hm
  exact lin_lexy (hM _ hkm) (hM q hq) (hm q hq)
/-- All points lie on a line with the first one. -/
def Line0 (a : Pt) (l : List Pt) : Prop := ∀ u ∈ l, ∀ v ∈ l, u ≠ a → det a u v = 0
theorem line0_all {a : Pt} {l : List Pt} (h : Line0 a l) : ∀ u ∈ l, ∀ v ∈ l, ∀ w ∈ l, det u v w = 0 := by
  have h' : ∀ u ∈ l, ∀ v ∈ l, det a u v = 0 := fun u hu v hv => by
    by_cases e : u = a
    · rw [e]; unfold det; rw [Int.sub_self, Int.sub_self, Int.zero_mul, Int.zero_mul]; rfl
    · exact h u hu v hv e
  intro u hu v hv w hw
  have := det_four a u v w
  rw [h' u hu v hv, h' v hv w hw, h' u hu w hw] at this
  omega
theorem hull_not_line0 {pts r : List Pt} (h : IsHull pts r) (a : Pt) : ¬ Line0 a pts := fun hl => by
  obtain ⟨u, hu, v, hv, w, hw, hne⟩ := HullR.not_line h
  exact hne (line0_all hl u hu v hv w hw)
theorem line0_of {a : Pt} {l : List Pt} (ha : a ∈ l) (h : ∀ u ∈ l, ∀ v ∈ l, ∀ w ∈ l, det u v w = 0) : Line0 a l := fun u hu v hv _ => h a ha u hu v hv
end Go.Proofs.YtkpnffokjpgalaaGreat
/- Layer 10 (plain): the reference's gift wrapping. -/
namespace Go.Proofs.YtkpnffokjpgalaaGreat
set_option linter.unusedVariables false
set_option linter.unusedSimpArgs false

def nrm (p x : Pt) : Int := (x.1 - p.1) * (x.1 - p.1) + (x.2 - p.2) * (x.2 - p.2)
def dotE (p v x : Pt) : Int := (v.1 - p.1) * (x.1 - p.1) + (v.2 - p.2) * (x.2 - p.2)
theorem nrm_nonneg (p x : Pt) : 0 ≤ nrm p x := by
  unfold nrm
  have h1 := sq_nonneg (x.1 - p.1)
  have h2 := sq_nonneg (x.2 - p.2)
  omega
def stepN (p q x : Pt) : Pt := if x = p then q else if q = p then x else if det p q x < 0 ∨ (det p q x = 0 ∧ nrm p q < nrm p x) then x else q
def nextC (l : List Pt) (p : Pt) : Pt := l.foldl (stepN p) p
/-- The next vertex v of p: all lies left, and what lies on the edge lies nearer. -/
structure Ahead (l : List Pt) (p v : Pt) : Prop where
  ne : v ≠ p
  left : ∀ x ∈ l, 0 ≤ det p v x
  near : ∀ x ∈ l, x ≠ v → det p v x = 0 → nrm p x < nrm p v
theorem step_keep {l : List Pt} {p v x : Pt} (h : Ahead l p v) (hx : x ∈ l) : stepN p v x = v := by
  unfold stepN
  split
  · rfl
  · rw [if_neg h.ne]
    split
    · rename_i h0 h1
      have := h.left x hx
      rcases h1 with h1 | ⟨h1, h2⟩
      · omega
      · by_cases e : x = v
        · exact e
        · have := h.near x hx e h1; omega
    · rfl
theorem det_swap2 (p q x : Pt) : det p q x = - det p x q := by unfold det; grind
theorem step_take {l : List Pt} {p v q : Pt} (h : Ahead l p v) (hq : q ∈ l ∨ q = p) : stepN p q v = v := by
  unfold stepN
  rw [if_neg h.ne]
  split
  · rfl
  · rename_i hne
    have hql : q ∈ l := hq.resolve_right hne
    have h1 := h.left q hql
    have h2 := det_swap2 p q v
    split
    · rfl
    · rename_i hc
      by_cases e : q = v
      · exact e
      · exfalso
        apply hc
        by_cases h0 : det p v q = 0
        · exact .inr ⟨by omega, h.near q hql e h0⟩
        · exact .inl (by omega)
theorem step_in {l : List Pt} {p q x : Pt} (hq : q ∈ l ∨ q = p) (hx : x ∈ l) : stepN p q x ∈ l ∨ stepN p q x = p := by
  unfold stepN
  split
  · exact hq
  · split
    · exact .inl hx
    · split
      · exact .inl hx
      · exact hq
theorem fold_ahead {l : List Pt} {p v : Pt} (h : Ahead l p v) : ∀ (m : List Pt) (q : Pt), (∀ x ∈ m, x ∈ l) → (q ∈ l ∨ q = p) → (q = v ∨ v ∈ m) → m.foldl (stepN p) q = v
  | [], q, _, _, hv => by
    rcases hv with e | e
    · exact e
    · cases e
  | x :: m, q, hs, hq, hv => by
    rw [List.foldl_cons]
    refine fold_ahead h m _ (fun y hy => hs y (List.mem_cons_of_mem _ hy)) (step_in hq (hs x (List.mem_cons_self ..))) ?_
    rcases hv with e | e
    · subst e
      exact .inl (step_keep h (hs x (List.mem_cons_self ..)))
    · rcases List.mem_cons.1 e with e | e
      · subst e
        exact .inl (step_take h hq)
      · exact .inr e
theorem next_ahead {l : List Pt} {p v : Pt} (h : Ahead l p v) (hv : v ∈ l) : nextC l p = v :=
  fold_ahead h l p (fun _ hx => hx) (.inr rfl) (.inr hv)
/-- On the line p v, between the edges u p and v w. -/
theorem near_of {u p v w x : Pt} (hne : v ≠ p) (hx : x ≠ v) (h0 : det p v x = 0) (h1 : 0 ≤ det v w x) (c1 : 0 < det v w p) (h2 : 0 ≤ det u p x) (c2 : 0 < det u p v) : nrm p x < nrm p v := by
  have e1 : nrm p v * det v w x = det v w p * (nrm p v - dotE p v x) + (dotE p v w - nrm p v) * det p v x := by unfold nrm det dotE; grind
  have e2 : nrm p v * det u p x = det u p v * dotE p v x - dotE p v u * det p v x := by unfold nrm det dotE; grind
  have e3 : nrm p v * nrm p x = dotE p v x * dotE p v x + det p v x * det p v x := by unfold nrm det dotE; grind
  have e4 : nrm p v * (x.1 - p.1) = dotE p v x * (v.1 - p.1) - (v.2 - p.2) * det p v x := by unfold nrm det dotE; grind
  have e5 : nrm p v * (x.2 - p.2) = dotE p v x * (v.2 - p.2) + (v.1 - p.1) * det p v x := by unfold nrm det dotE; grind
  rw [h0] at e1 e2 e3 e4 e5
  simp only [Int.mul_zero, Int.add_zero, Int.sub_zero] at e1 e2 e3 e4 e5
  have hN : 0 < nrm p v := by
    rcases Int.lt_or_le 0 (nrm p v) with h | h
    · exact h
    · exfalso
      apply hne
      have a1 := sq_nonneg (v.1 - p.1)
      have a2 := sq_nonneg (v.2 - p.2)
      unfold nrm at h
      have b1 : (v.1 - p.1) * (v.1 - p.1) = 0 := by omega
      have b2 : (v.2 - p.2) * (v.2 - p.2) = 0 := by omega
      have d1 := Int.mul_eq_zero.1 b1
      have d2 := Int.mul_eq_zero.1 b2
      exact Prod.ext (by omega) (by omega)
  have s1 : 0 ≤ nrm p v - dotE p v x := nonneg_of_mul c1 (by rw [← e1]; exact Int.mul_nonneg (Int.le_of_lt hN) h1)
  have s0 : 0 ≤ dotE p v x := nonneg_of_mul c2 (by rw [← e2]; exact Int.mul_nonneg (Int.le_of_lt hN) h2)
  generalize dotE p v x = s at *
  generalize nrm p v = N at *
  by_cases hs : s = N
  · exfalso
    apply hx
    subst hs
    have d1 : s * (x.1 - v.1) = 0 := by grind
    have d2 : s * (x.2 - v.2) = 0 := by grind
    have d1 := zero_of_mul hN d1
    have d2 := zero_of_mul hN d2
    exact Prod.ext (by omega) (by omega)
  · have t : 0 < N * (N - nrm p x) := by
      have q1 : 0 < (N - s) * N := Int.mul_pos (by omega) hN
      have q2 : 0 ≤ (N - s) * s := Int.mul_nonneg (by omega) s0
      grind
    have := pos_of_mul hN t
    omega
theorem hull_ahead {l r : List Pt} (h : IsHull l r) {i : Nat} (hi : i < r.length) : Ahead l (at0 r i) (rv r (i + 1)) := by
  have h3 := h.three
  have hm1 : (i + 1) % r.length = if i + 1 < r.length then i + 1 else i + 1 - r.length := mod_two (by omega)
  obtain ⟨j, hj, hji⟩ : ∃ j, j < r.length ∧ (j + 1) % r.length = i := by
    by_cases h0 : i = 0
    · exact ⟨r.length - 1, by omega, by rw [show r.length - 1 + 1 = r.length by omega, Nat.mod_self, h0]⟩
    · exact ⟨i - 1, by omega, by rw [show i - 1 + 1 = i by omega, Nat.mod_eq_of_lt hi]⟩
  have hjm : (j + 1) % r.length = if j + 1 < r.length then j + 1 else j + 1 - r.length := mod_two (by omega)
  have hrj : rv r (j + 1) = at0 r i := by unfold rv; rw [hji]
  obtain ⟨i1, hi1⟩ : ∃ i1, i1 = (i + 1) % r.length := ⟨_, rfl⟩
  have hlt1 : i1 < r.length := by rw [hi1]; exact Nat.mod_lt _ (by omega)
  have hr1 : rv r (i + 1) = at0 r i1 := by unfold rv; rw [hi1]
  have hm2 : (i1 + 1) % r.length = if i1 + 1 < r.length then i1 + 1 else i1 + 1 - r.length := mod_two (by omega)
  rw [← hi1] at hm1
  have hi1i : i1 ≠ i := by split at hm1 <;> omega
  have c1 : 0 < det (at0 r i1) (rv r (i1 + 1)) (at0 r i) := h.convex i1 i hlt1 hi (fun e => hi1i e.symm) (by rw [hm2]; split <;> split at hm1 <;> omega)
  have c2 : 0 < det (at0 r j) (rv r (j + 1)) (at0 r i1) := h.convex j i1 hj hlt1 (by rw [hji] at hjm; split at hjm <;> split at hm1 <;> omega) (by rw [hji]; exact hi1i)
  rw [hrj] at c2
  have hne : at0 r i1 ≠ at0 r i := fun e => by rw [e, det_self] at c1; omega
  rw [hr1]
  refine ⟨hne, fun x hx => ?_, fun x hx hxv h0 => ?_⟩
  · have := h.left i hi x hx
    rw [hr1] at this
    exact this
  · have l1 := h.left i1 hlt1 x hx
    have l2 := h.left j hj x hx
    rw [hrj] at l2
    exact near_of hne hxv h0 l1 c1 l2 c2
theorem rv_mem {r : List Pt} {i : Nat} (h : 0 < r.length) : rv r i ∈ r := by
  unfold rv
  rw [at0_eq (Nat.mod_lt _ h)]
  exact List.getElem_mem _
theorem next_hull {l r : List Pt} (h : IsHull l r) {i : Nat} (hi : i < r.length) : nextC l (at0 r i) = rv r (i + 1) :=
  next_ahead (hull_ahead h hi) (h.sub _ (rv_mem (by omega)))
/-- The vertices differ from the first. -/
theorem at_ne_first {l r : List Pt} (h : IsHull l r) {k : Nat} (hk : k < r.length) (h0 : k ≠ 0) : at0 r k ≠ at0 r 0 := by
  have h3 := h.three
  intro e
  by_cases h1 : k = 1
  · subst h1
    have c := h.convex 0 2 (by omega) (by omega) (by omega) (by rw [Nat.mod_eq_of_lt (by omega)]; omega)
    rw [show rv r (0 + 1) = at0 r 1 from by unfold rv; rw [Nat.mod_eq_of_lt (by omega)], e, det_same] at c
    omega
  · have c := h.convex 0 k (by omega) hk h0 (by rw [Nat.mod_eq_of_lt (by omega)]; omega)
    rw [e, det_self] at c
    omega
end Go.Proofs.YtkpnffokjpgalaaGreat
/- Layer 15 (plain): rings that rise, then fall, and turn left at every vertex are convex. -/
namespace Go.Proofs.YtkpnffokjpgalaaGreat
set_option linter.unusedVariables false
set_option linter.unusedSimpArgs false

def near (m : Int) (p : Pt) : Prop := (-m ≤ p.1 ∧ p.1 ≤ m) ∧ (-m ≤ p.2 ∧ p.2 ≤ m)
theorem nodup_le {α : Type} [DecidableEq α] : ∀ {l m : List α}, l.Nodup → (∀ x ∈ l, x ∈ m) → l.length ≤ m.length
  | [], _, _, _ => Nat.zero_le _
  | a :: l, m, h, hs => by
    obtain ⟨h1, h2⟩ := List.nodup_cons.1 h
    have ha := hs a (by simp)
    have := nodup_le (l := l) (m := m.erase a) h2 (fun x hx => (List.mem_erase_of_ne (by rintro rfl; exact h1 hx)).2 (hs x (List.mem_cons_of_mem _ hx)))
    rw [List.length_erase_of_mem ha] at this
    have hm : 0 < m.length := List.length_pos_of_mem ha
    simp
    omega
def ConvexI (r : List Pt) : Prop := ∀ i, i < r.length → ∀ k, k < r.length → k ≠ i → k ≠ (i + 1) % r.length → 0 < det (at0 r i) (rv r (i + 1)) (at0 r k)
theorem mem_at {r : List Pt} {q : Pt} (hq : q ∈ r) : ∃ k, k < r.length ∧ at0 r k = q := by
  obtain ⟨k, hk, rfl⟩ := List.getElem_of_mem hq
  exact ⟨k, hk, at0_eq hk⟩
theorem ConvexI.left {r : List Pt} (h : ConvexI r) : ∀ i, i < r.length → ∀ q ∈ r, 0 ≤ det (at0 r i) (rv r (i + 1)) q := by
  intro i hi q hq
  obtain ⟨k, hk, rfl⟩ := mem_at hq
  by_cases h1 : k = i
  · subst h1; rw [det_self]; exact Int.le_refl _
  by_cases h2 : k = (i + 1) % r.length
  · subst h2
    exact Int.le_of_eq (det_end _ _).symm
  exact Int.le_of_lt (h i hi k hk h1 h2)
theorem ConvexI.self {r : List Pt} (h : ConvexI r) (h3 : 3 ≤ r.length) : IsHull r r := ⟨h3, fun i k hi hk h1 h2 => h i hi k hk h1 h2, h.left, fun q hq => hq⟩
theorem IsHull.cv {l r : List Pt} (h : IsHull l r) : ConvexI r := fun i hi k hk h1 h2 => h.convex i k hi hk h1 h2

section
variable {K L : Int}
/-- A chain of points that rises and turns left: every three turn left. -/
structure Rise (K L : Int) (f : Nat → Pt) (m : Nat) : Prop where
  asc : ∀ i, i < m → lin K L (f i) < lin K L (f (i + 1))
  turn : ∀ i, i + 2 ≤ m → 0 < det (f i) (f (i + 1)) (f (i + 2))
theorem Rise.lt {f : Nat → Pt} {m : Nat} (h : Rise K L f m) : ∀ {i j : Nat}, i < j → j ≤ m → lin K L (f i) < lin K L (f j)
  | i, 0, h1, _ => absurd h1 (by omega)
  | i, j + 1, h1, h2 => by
    have := h.asc j (by omega)
    by_cases e : i = j
    · subst e; exact this
    · have := h.lt (i := i) (j := j) (by omega) (by omega)
      omega
theorem Rise.one {f : Nat → Pt} {m : Nat} (h : Rise K L f m) : ∀ {i j : Nat}, i < j → j + 1 ≤ m → 0 < det (f i) (f j) (f (j + 1))
  | i, 0, h1, _ => absurd h1 (by omega)
  | i, j + 1, h1, h2 => by
    by_cases e : i = j
    · subst e; exact h.turn i (by omega)
    · have ih := h.one (i := i) (j := j) (by omega) (by omega)
      exact (turn_skip (h.asc j (by omega)) (h.lt (i := i) (j := j) (by omega) (by omega)) (h.asc (j + 1) (by omega)) ih (h.turn j (by omega))).2
theorem Rise.three {f : Nat → Pt} {m : Nat} (h : Rise K L f m) : ∀ {i j k : Nat}, i < j → j < k → k ≤ m → 0 < det (f i) (f j) (f k)
  | i, j, 0, _, h2, _ => absurd h2 (by omega)
  | i, j, k + 1, h1, h2, h3 => by
    by_cases e : j = k
    · subst e; exact h.one h1 h3
    · have ih := h.three (i := i) (j := j) (k := k) h1 (by omega) (by omega)
      exact (turn_skip (h.lt (i := j) (j := k) (by omega) (by omega)) (h.lt h1 (by omega)) (h.asc k (by omega)) ih (h.one (i := j) (j := k) (by omega) h3)).1
theorem Rise.left {f : Nat → Pt} {m : Nat} (h : Rise K L f m) {i j : Nat} (hi : i < m) (hj : j ≤ m) : 0 ≤ det (f i) (f (i + 1)) (f j) := by
  rcases Nat.lt_trichotomy j i with q | q | q
  · have := h.three q (Nat.lt_succ_self i) (by omega)
    rw [det_cycle] at this
    exact Int.le_of_lt this
  · subst q; rw [det_self]; exact Int.le_refl _
  · by_cases e : j = i + 1
    · subst e; rw [det_end]; exact Int.le_refl _
    · exact Int.le_of_lt (h.three (Nat.lt_succ_self i) (by omega) hj)
theorem side_across {B T q a b : Pt} (hBT : lin K L B < lin K L T) (h1 : lin K L B ≤ lin K L q) (h2 : lin K L q ≤ lin K L T) (h3 : 0 ≤ det B T q) (hab : lin K L a < lin K L b) (hB : 0 ≤ det a b B) (hT : 0 ≤ det a b T) : 0 ≤ det a b q := by
  have e : (lin K L T - lin K L B) * det a b q = det a b B * (lin K L T - lin K L q) + det a b T * (lin K L q - lin K L B) + (lin K L b - lin K L a) * det B T q := by unfold det lin; grind
  have m1 := Int.mul_nonneg hB (show 0 ≤ lin K L T - lin K L q by omega)
  have m2 := Int.mul_nonneg hT (show 0 ≤ lin K L q - lin K L B by omega)
  have m3 := Int.mul_nonneg (show 0 ≤ lin K L b - lin K L a by omega) h3
  exact nonneg_of_mul (a := lin K L T - lin K L B) (by omega) (by rw [e]; omega)
/-- A chain up and a chain down: what lies on the one is left of the other's edges. -/
theorem Rise.across {f g : Nat → Pt} {m n : Nat} (hf : Rise K L f m) (hg : Rise (-K) (-L) g n) (h0 : g 0 = f m) (h1 : g n = f 0) (hm : 0 < m) {i t : Nat} (hi : i < m) (ht : t ≤ n) : 0 ≤ det (f i) (f (i + 1)) (g t) := by
  by_cases t0 : t = 0
  · subst t0; rw [h0]; exact hf.left hi (Nat.le_refl _)
  by_cases tn : t = n
  · subst tn; rw [h1]; exact hf.left hi (Nat.zero_le _)
  have a := hg.lt (i := 0) (j := t) (by omega) ht
  have b := hg.lt (i := t) (j := n) (by omega) (Nat.le_refl _)
  have d := hg.three (i := 0) (j := t) (k := n) (by omega) (by omega) (Nat.le_refl _)
  rw [lin_neg, lin_neg] at a b
  rw [h0] at a d
  rw [h1] at b d
  refine side_across (B := f 0) (T := f m) (hf.lt hm (Nat.le_refl _)) (by omega) (by omega) ?_ (hf.asc i hi) (hf.left hi (Nat.zero_le _)) (hf.left hi (Nat.le_refl _))
  rw [det_cycle, det_cycle] at d
  exact Int.le_of_lt d
end
theorem at0_take {s : List Pt} {m i : Nat} (h : i < m) : at0 (s.take m) i = at0 s i := by
  unfold at0
  rw [List.getD_eq_getElem?_getD, List.getD_eq_getElem?_getD, List.getElem?_take, if_pos h]
theorem at0_drop {s : List Pt} {m i : Nat} : at0 (s.drop m) i = at0 s (m + i) := by
  unfold at0
  rw [List.getD_eq_getElem?_getD, List.getD_eq_getElem?_getD, List.getElem?_drop]
theorem at0_app_l {s t : List Pt} {i : Nat} (h : i < s.length) : at0 (s ++ t) i = at0 s i := by
  unfold at0
  rw [List.getD_eq_getElem?_getD, List.getD_eq_getElem?_getD, List.getElem?_append_left h]
theorem at0_app_r {s t : List Pt} {i : Nat} (h : s.length ≤ i) : at0 (s ++ t) i = at0 t (i - s.length) := by
  unfold at0
  rw [List.getD_eq_getElem?_getD, List.getD_eq_getElem?_getD, List.getElem?_append_right h]
/-- The ring: up to index m, then down to its first vertex. -/
theorem ring_convex {K L : Int} {P s : List Pt} {m : Nat} (h3 : 3 ≤ s.length) (hm : 0 < m) (hmn : m < s.length) (hup : Rise K L (fun i => at0 s i) m) (hdn : Rise (-K) (-L) (fun i => rv s (m + i)) (s.length - m))
    (hsub : ∀ q ∈ s, q ∈ P) (hl : ∀ q ∈ P, (∀ i, i < m → 0 ≤ det (at0 s i) (at0 s (i + 1)) q) ∧ ∀ i, i < s.length - m → 0 ≤ det (rv s (m + i)) (rv s (m + i + 1)) q) : IsHull P s := by
  have e0 : ∀ i, i < s.length → rv s i = at0 s i := fun i hi => by unfold rv; rw [Nat.mod_eq_of_lt hi]
  have en : rv s s.length = at0 s 0 := by unfold rv; rw [Nat.mod_self]
  have hlo : Chain K L P (s.take (m + 1)) := by
    have hlen : (s.take (m + 1)).length = m + 1 := by rw [List.length_take]; omega
    refine ⟨fun i hi => ?_, fun i j k h1 h2 h4 => ?_, fun i hi q hq => ?_, fun q hq => hsub q (List.mem_of_mem_take hq)⟩
    · rw [at0_take (by omega), at0_take (by omega)]
      exact hup.asc i (by omega)
    · rw [at0_take (by omega), at0_take (by omega), at0_take (by omega)]
      exact hup.three h1 h2 (by omega)
    · rw [at0_take (by omega), at0_take (by omega)]
      exact (hl q hq).1 i (by omega)
  have hd : ∀ i, i ≤ s.length - m → at0 (s.drop m ++ [at0 s 0]) i = rv s (m + i) := fun i hi => by
    by_cases q : i < s.length - m
    · rw [at0_app_l (by rw [List.length_drop]; exact q), at0_drop, e0 _ (by omega)]
    · rw [at0_app_r (by rw [List.length_drop]; omega), List.length_drop, show i - (s.length - m) = 0 by omega, show m + i = s.length by omega, en]
      rfl
  have hhi : Chain (-K) (-L) P (s.drop m ++ [at0 s 0]) := by
    have hlen : (s.drop m ++ [at0 s 0]).length = s.length - m + 1 := by simp
    refine ⟨fun i hi => ?_, fun i j k h1 h2 h4 => ?_, fun i hi q hq => ?_, fun q hq => ?_⟩
    · rw [hd i (by omega), hd (i + 1) (by omega)]
      exact hdn.asc i (by omega)
    · rw [hd i (by omega), hd j (by omega), hd k (by omega)]
      exact hdn.three h1 h2 (by omega)
    · rw [hd i (by omega), hd (i + 1) (by omega)]
      exact (hl q hq).2 i (by omega)
    · rcases List.mem_append.1 hq with hq | hq
      · exact hsub q (List.mem_of_mem_drop hq)
      · rw [List.mem_singleton] at hq
        rw [hq]
        exact hsub _ (at0_mem (by omega))
  have hlen1 : (s.take (m + 1)).length = m + 1 := by rw [List.length_take]; omega
  have hlen2 : (s.drop m ++ [at0 s 0]).length = s.length - m + 1 := by simp
  have := hull_ring hlo hhi (by omega) (by omega) (by rw [hd 0 (by omega), hlen1, at0_take (by omega), Nat.add_zero, Nat.add_sub_cancel, e0 _ hmn]) (by
    rw [hlen2, Nat.add_sub_cancel, hd _ (Nat.le_refl _), show m + (s.length - m) = s.length by omega, en, at0_take (by omega)]) (by omega)
  have e : (s.take (m + 1)).dropLast ++ (s.drop m ++ [at0 s 0]).dropLast = s := by
    rw [List.dropLast_concat, List.dropLast_eq_take, hlen1, List.take_take, Nat.add_sub_cancel, Nat.min_eq_left (by omega), List.take_append_drop]
  rwa [e] at this
theorem ring_self {K L : Int} {s : List Pt} {m : Nat} (h3 : 3 ≤ s.length) (hm : 0 < m) (hmn : m < s.length) (hup : Rise K L (fun i => at0 s i) m) (hdn : Rise (-K) (-L) (fun i => rv s (m + i)) (s.length - m)) : IsHull s s := by
  have e0 : ∀ i, i < s.length → rv s i = at0 s i := fun i hi => by unfold rv; rw [Nat.mod_eq_of_lt hi]
  have en : rv s s.length = at0 s 0 := by unfold rv; rw [Nat.mod_self]
  have j0 : rv s (m + 0) = at0 s m := by rw [Nat.add_zero, e0 _ hmn]
  have j1 : rv s (m + (s.length - m)) = at0 s 0 := by rw [show m + (s.length - m) = s.length by omega, en]
  refine ring_convex h3 hm hmn hup hdn (fun q hq => hq) fun q hq => ?_
  obtain ⟨k, hk, rfl⟩ := mem_at hq
  have hdn2 : Rise K L (fun i => at0 s i) m := hup
  have hup' : Rise (- -K) (- -L) (fun i => at0 s i) m := by rw [Int.neg_neg, Int.neg_neg]; exact hup
  have A := fun i t (hi : i < m) (ht : t ≤ s.length - m) => hup.across hdn j0 j1 hm hi ht
  have B := fun i t (hi : i < s.length - m) (ht : t ≤ m) => hdn.across hup' j1.symm j0.symm (by omega) hi ht
  have ek : ∀ t, m ≤ t → t < s.length → at0 s t = rv s (m + (t - m)) := fun t h1 h2 => by rw [show m + (t - m) = t by omega, e0 _ h2]
  constructor
  · intro i hi
    by_cases q : k ≤ m
    · exact hup.left hi q
    · rw [ek k (by omega) hk]
      exact A i (k - m) hi (by omega)
  · intro i hi
    by_cases q : k ≤ m
    · exact B i k hi q
    · rw [ek k (by omega) hk]
      exact hdn.left hi (by omega)
end Go.Proofs.YtkpnffokjpgalaaGreat
/- Layer 15 (plain): what Valid asks is convexity. -/
namespace Go.Proofs.YtkpnffokjpgalaaGreat
set_option linter.unusedVariables false
set_option linter.unusedSimpArgs false

def crs (a b : Pt) : Int := a.1 * b.2 - a.2 * b.1
def subP (a b : Pt) : Pt := (a.1 - b.1, a.2 - b.2)
def addP (a b : Pt) : Pt := (a.1 + b.1, a.2 + b.2)
theorem det_crs (a b c : Pt) : det a b c = crs (subP b a) (subP c b) := by unfold det crs subP; grind
/-- A direction of the first half turn. -/
def upB (d : Pt) : Bool := decide (0 < d.2) || (decide (d.2 = 0) && decide (0 < d.1))
theorem upB_lexy {p q : Pt} : upB (subP q p) = true ↔ lexy p q := by
  unfold upB subP lexy
  simp only [Bool.or_eq_true, Bool.and_eq_true, decide_eq_true_eq]
  omega
theorem lexy_lin {p q : Pt} (hp : near 20000 p) (hq : near 20000 q) (h : lexy p q) : lin 1 40001 p < lin 1 40001 q := by
  unfold near at hp hq
  unfold lexy at h
  unfold lin
  omega
theorem lin_lexy' {p q : Pt} (hp : near 20000 p) (hq : near 20000 q) (h : lin 1 40001 p ≤ lin 1 40001 q) : p = q ∨ lexy p q :=
  lin_lexy (M := 20000) hp.1 hq.1 h
def edgeV (r : List Pt) (i : Nat) : Pt := subP (rv r (i + 1)) (rv r i)
theorem rv_lt {r : List Pt} {i : Nat} (h : i < r.length) : rv r i = at0 r i := by unfold rv; rw [Nat.mod_eq_of_lt h]
theorem rv_add (r : List Pt) (i : Nat) : rv r (i + r.length) = rv r i := by unfold rv; rw [Nat.add_mod_right]
/-- Here a lower direction is followed by an upper one. -/
def turnAt (r : List Pt) (i : Nat) : Bool := !upB (edgeV r i) && upB (edgeV r (i + 1))
def leftAt (r : List Pt) (i : Nat) : Bool := decide (0 < crs (edgeV r i) (edgeV r (i + 1)))
def turns (r : List Pt) (n : Nat) : Nat := ((List.range n).filter (turnAt r)).length
theorem turns_succ (r : List Pt) (n : Nat) : turns r (n + 1) = turns r n + (if turnAt r n then 1 else 0) := by
  unfold turns
  rw [List.range_succ, List.filter_append, List.length_append]
  congr 1
  by_cases h : turnAt r n = true
  · rw [if_pos h, List.filter_cons_of_pos h]; rfl
  · rw [if_neg h, List.filter_cons_of_neg h]; rfl
theorem leftAt_det {r : List Pt} {i : Nat} : leftAt r i = true ↔ 0 < det (rv r i) (rv r (i + 1)) (rv r (i + 2)) := by
  unfold leftAt
  rw [decide_eq_true_eq, det_crs]
  rfl
theorem one_of_filter {p : Nat → Bool} {n : Nat} (h : ((List.range n).filter p).length = 1) : ∃ k, k < n ∧ p k = true ∧ ∀ i, i < n → p i = true → i = k := by
  obtain ⟨k, hk⟩ := List.length_eq_one_iff.1 h
  have hm : ∀ i, i ∈ (List.range n).filter p ↔ i = k := fun i => by rw [hk, List.mem_singleton]
  have := (hm k).2 rfl
  rw [List.mem_filter, List.mem_range] at this
  exact ⟨k, this.1, this.2, fun i hi hp => (hm i).1 (List.mem_filter.2 ⟨List.mem_range.2 hi, hp⟩)⟩
theorem filter_one {p : Nat → Bool} {n k : Nat} (hk : k < n) (hp : p k = true) (hu : ∀ i, i < n → p i = true → i = k) : ((List.range n).filter p).length = 1 := by
  have h1 : ((List.range n).filter p).length ≤ 1 := nodup_le (m := [k]) (List.Nodup.sublist List.filter_sublist List.nodup_range) (fun x hx => by
    rw [List.mem_filter, List.mem_range] at hx
    rw [hu x hx.1 hx.2]
    simp)
  have h2 : 0 < ((List.range n).filter p).length := List.length_pos_of_mem (List.mem_filter.2 ⟨List.mem_range.2 hk, hp⟩)
  omega
theorem rot_rv' {r : List Pt} {k : Nat} (hk : k < r.length) (i : Nat) : rv (rotL k r) i = rv r (k + i) := by
  have hl := rotL_length (r := r) (Nat.le_of_lt hk)
  unfold rv
  rw [hl, rot_at hk (Nat.mod_lt _ (by omega)), Nat.add_mod_mod]
theorem edge_ne {a b : Pt} (h : upB (subP b a) = false) (h2 : a ≠ b) : lexy b a := by
  rcases lexy_tri a b with q | q | q
  · rw [upB_lexy.2 q] at h; cases h
  · exact absurd q h2
  · exact q
/-- Left turns at every vertex and one change from down to up: convex. -/
theorem turns_convex {r : List Pt} (h3 : 3 ≤ r.length) (hn : ∀ p ∈ r, near 20000 p) (hl : ∀ i, i < r.length → leftAt r i = true) (ht : turns r r.length = 1) :
    ∃ k, k < r.length ∧ IsHull (rotL k r) (rotL k r) ∧ (∀ q ∈ r, at0 (rotL k r) 0 = q ∨ lexy (at0 (rotL k r) 0) q) := by
  obtain ⟨i0, hi0, hp0, hu⟩ := one_of_filter ht
  have hper : ∀ i, edgeV r (i + r.length) = edgeV r i := fun i => by
    unfold edgeV
    rw [show i + r.length + 1 = (i + 1) + r.length by omega, rv_add, rv_add]
  have hl' : ∀ i, leftAt r i = true := fun i => by
    have h := hl (i % r.length) (Nat.mod_lt _ (by omega))
    have e : ∀ j, edgeV r (i % r.length + j) = edgeV r (i + j) := fun j => by
      have : i + j = (i % r.length + j) + (i / r.length) * r.length := by have := Nat.mod_add_div i r.length; rw [Nat.mul_comm] at this; omega
      rw [this]
      generalize i / r.length = c
      induction c with
      | zero => rw [Nat.zero_mul, Nat.add_zero]
      | succ c ih => rw [Nat.succ_mul, ← Nat.add_assoc, hper]; exact ih
    unfold leftAt at *
    rw [e 1, show edgeV r (i % r.length) = edgeV r i from e 0] at h
    exact h
  have hdist : ∀ i, rv r i ≠ rv r (i + 1) := fun i e => by
    have := leftAt_det.1 (hl' i)
    rw [e, det_same] at this
    omega
  have hk : (i0 + 1) % r.length < r.length := Nat.mod_lt _ (by omega)
  obtain ⟨k, hkd⟩ : ∃ k, k = (i0 + 1) % r.length := ⟨_, rfl⟩
  rw [← hkd] at hk
  refine ⟨k, hk, ?_⟩
  have hL := rotL_length (r := r) (Nat.le_of_lt hk)
  obtain ⟨s, hs⟩ : ∃ s, s = rotL k r := ⟨_, rfl⟩
  have hsv : ∀ i, rv s i = rv r (k + i) := fun i => by rw [hs]; exact rot_rv' hk i
  rw [← hs] at hL ⊢
  have hkm : ∀ j, rv r (k + j) = rv r (i0 + 1 + j) := fun j => by
    unfold rv
    rw [hkd, Nat.mod_add_mod]
  have hes : ∀ i, edgeV s i = edgeV r (i0 + 1 + i) := fun i => by
    unfold edgeV
    rw [hsv, hsv, hkm, hkm]
    rfl
  have hup0 : upB (edgeV s 0) = true := by
    rw [hes]
    unfold turnAt at hp0
    rw [Bool.and_eq_true] at hp0
    exact hp0.2
  have hlow : upB (edgeV s (s.length - 1)) = false := by
    rw [hes, hL, show i0 + 1 + (r.length - 1) = i0 + r.length by omega, hper]
    unfold turnAt at hp0
    rw [Bool.and_eq_true] at hp0
    simpa using hp0.1
  have hno : ∀ i, i + 1 < s.length → upB (edgeV s i) = false → upB (edgeV s (i + 1)) = false := fun i hi h => by
    cases q : upB (edgeV s (i + 1))
    · rfl
    · exfalso
      have hper2 : ∀ j, edgeV r (j % r.length) = edgeV r j := fun j => by
        unfold edgeV rv
        rw [Nat.mod_add_mod, Nat.mod_mod]
      have ht2 : turnAt r ((i0 + 1 + i) % r.length) = true := by
        unfold turnAt
        have e1 : edgeV r ((i0 + 1 + i) % r.length) = edgeV s i := by rw [hper2, hes]
        have e2 : edgeV r ((i0 + 1 + i) % r.length + 1) = edgeV s (i + 1) := by
          rw [hes]
          unfold edgeV rv
          rw [show (i0 + 1 + i) % r.length + 1 + 1 = (i0 + 1 + i) % r.length + 2 by omega, Nat.mod_add_mod, Nat.mod_add_mod]
          rfl
        rw [e1, e2, h, q]
        rfl
      have := hu _ (Nat.mod_lt _ (by omega)) ht2
      by_cases c : i0 + 1 + i < r.length
      · rw [Nat.mod_eq_of_lt c] at this; omega
      · rw [Nat.mod_eq_sub_mod (by omega), Nat.mod_eq_of_lt (by omega)] at this; omega
  obtain ⟨m, hm0, hmn, hmu, hml⟩ : ∃ m, 0 < m ∧ m < s.length ∧ (∀ i, i < m → upB (edgeV s i) = true) ∧ ∀ i, m ≤ i → i < s.length → upB (edgeV s i) = false := by
    have step : ∀ j, j < s.length → (∀ i, i ≤ j → upB (edgeV s i) = true) ∨ ∃ m, 0 < m ∧ m ≤ j ∧ (∀ i, i < m → upB (edgeV s i) = true) ∧ ∀ i, m ≤ i → i ≤ j → upB (edgeV s i) = false := by
      intro j
      induction j with
      | zero => exact fun _ => .inl fun i hi => by rw [show i = 0 by omega]; exact hup0
      | succ j ih =>
        intro hj
        rcases ih (by omega) with h | ⟨m, a, b, c, d⟩
        · cases q : upB (edgeV s (j + 1))
          · exact .inr ⟨j + 1, by omega, Nat.le_refl _, fun i hi => h i (by omega), fun i h1 h2 => by rw [show i = j + 1 by omega]; exact q⟩
          · exact .inl fun i hi => by
              by_cases e : i = j + 1
              · rw [e]; exact q
              · exact h i (by omega)
        · refine .inr ⟨m, a, by omega, c, fun i h1 h2 => ?_⟩
          by_cases e : i = j + 1
          · rw [e]; exact hno j hj (d j b (Nat.le_refl _))
          · exact d i h1 (by omega)
    rcases step (s.length - 1) (by omega) with h | ⟨m, a, b, c, d⟩
    · have := h (s.length - 1) (Nat.le_refl _)
      rw [hlow] at this
      cases this
    · exact ⟨m, a, by omega, c, fun i h1 h2 => d i h1 (by omega)⟩
  have hsn : ∀ i, near 20000 (rv s i) := fun i => by rw [hsv]; exact hn _ (rv_mem (by omega))
  have hsd : ∀ i, rv s i ≠ rv s (i + 1) := fun i => by rw [hsv, hsv]; exact hdist (k + i)
  have hst : ∀ i, 0 < det (rv s i) (rv s (i + 1)) (rv s (i + 2)) := fun i => by rw [hsv, hsv, hsv]; exact leftAt_det.1 (hl' (k + i))
  have e0 : ∀ i, i < s.length → rv s i = at0 s i := fun i hi => rv_lt hi
  have hup : Rise 1 40001 (fun i => at0 s i) m := by
    refine ⟨fun i hi => ?_, fun i hi => ?_⟩
    · have := upB_lexy.1 (hmu i hi)
      rw [e0 i (by omega), e0 (i + 1) (by omega)] at this
      exact lexy_lin (by rw [← e0 i (by omega)]; exact hsn i) (by rw [← e0 (i + 1) (by omega)]; exact hsn (i + 1)) this
    · have := hst i
      rw [e0 i (by omega), e0 (i + 1) (by omega), e0 (i + 2) (by omega)] at this
      exact this
  have hdn : Rise (-1) (-40001) (fun i => rv s (m + i)) (s.length - m) := by
    refine ⟨fun i hi => ?_, fun i hi => hst (m + i)⟩
    have := edge_ne (hml (m + i) (by omega) (by omega)) (hsd (m + i))
    have := lexy_lin (hsn _) (hsn _) this
    rw [lin_neg, lin_neg]
    have e : m + (i + 1) = m + i + 1 := rfl
    rw [e]
    omega
  have hH := ring_self (by omega) hm0 hmn hup hdn
  refine ⟨hH, fun q hq => ?_⟩
  obtain ⟨j, hj, rfl⟩ := mem_at hq
  obtain ⟨t, ht', e⟩ : ∃ t, t < s.length ∧ at0 s t = at0 r j := by
    refine ⟨(j + (r.length - k)) % r.length, by rw [hL]; exact Nat.mod_lt _ (by omega), ?_⟩
    rw [← rv_lt (by rw [hL]; exact Nat.mod_lt _ (by omega)), hsv]
    unfold rv
    rw [Nat.add_mod_mod, show k + (j + (r.length - k)) = j + r.length by omega, Nat.add_mod_right, Nat.mod_eq_of_lt hj]
  rw [← e, ← e0 0 (by omega)]
  rw [← e0 t ht']
  refine lin_lexy' (hsn 0) (hsn t) ?_
  by_cases q : t = 0
  · rw [q]; exact Int.le_refl _
  by_cases q2 : t ≤ m
  · have := hup.lt (i := 0) (j := t) (by omega) q2
    rw [e0 0 (by omega), e0 t ht']
    exact Int.le_of_lt this
  · have := hdn.lt (i := t - m) (j := s.length - m) (by omega) (Nat.le_refl _)
    simp only [lin_neg] at this
    rw [show m + (t - m) = t by omega, show m + (s.length - m) = s.length by omega, show rv s s.length = rv s 0 by unfold rv; rw [Nat.mod_self, Nat.zero_mod]] at this
    omega
end Go.Proofs.YtkpnffokjpgalaaGreat
/- Layer 15: plain part of the merging sort: swaps, blocks that change places, what the merge needs. -/
namespace Go.Proofs.YtkpnffokjpgalaaGreat
set_option linter.unusedVariables false
set_option linter.unusedSimpArgs false

theorem at0_set {l : List Pt} {i j : Nat} {x : Pt} (h : i < l.length) : at0 (l.set i x) j = if j = i then x else at0 l j := by
  unfold at0
  by_cases e : j = i
  · subst e
    rw [if_pos rfl]
    simp [List.getD_eq_getElem?_getD, h]
  · rw [if_neg e]
    simp [List.getD_eq_getElem?_getD, List.getElem?_set, Ne.symm e]
def swp2 (l : List Pt) (i j : Nat) : List Pt := (l.set i (at0 l j)).set j (at0 l i)
theorem swp2_len (l : List Pt) (i j : Nat) : (swp2 l i j).length = l.length := by unfold swp2; simp
theorem swp2_at {l : List Pt} {i j : Nat} (hi : i < l.length) (hj : j < l.length) (k : Nat) : at0 (swp2 l i j) k = if k = j then at0 l i else if k = i then at0 l j else at0 l k := by
  unfold swp2
  rw [at0_set (by simpa using hj), at0_set hi]
theorem swp2_perm {l : List Pt} {i j : Nat} (hi : i < l.length) (hj : j < l.length) : (swp2 l i j).Perm l := by
  have e1 : at0 l i = l[i] := at0_eq hi
  have e2 : at0 l j = l[j] := at0_eq hj
  unfold swp2
  rw [e1, e2]
  exact List.set_set_perm hi hj

/-- Of a list, only the places from a to b are changed, and among themselves. -/
structure Re (l l' : List Pt) (a b : Nat) : Prop where
  perm : l'.Perm l
  out : ∀ i, i < a ∨ b ≤ i → at0 l' i = at0 l i
  inn : ∀ i, a ≤ i → i < b → ∃ i', a ≤ i' ∧ i' < b ∧ at0 l' i = at0 l i'
theorem Re.refl (l : List Pt) (a b : Nat) : Re l l a b := ⟨List.Perm.refl _, fun _ _ => rfl, fun i h1 h2 => ⟨i, h1, h2, rfl⟩⟩
theorem Re.len {l l' : List Pt} {a b : Nat} (h : Re l l' a b) : l'.length = l.length := h.perm.length_eq
theorem Re.trans {l l' l'' : List Pt} {a b : Nat} (h : Re l l' a b) (k : Re l' l'' a b) : Re l l'' a b :=
  ⟨k.perm.trans h.perm, fun i hi => (k.out i hi).trans (h.out i hi), fun i h1 h2 => by
    obtain ⟨j, j1, j2, e⟩ := k.inn i h1 h2
    obtain ⟨m, m1, m2, e'⟩ := h.inn j j1 j2
    exact ⟨m, m1, m2, e.trans e'⟩⟩
theorem Re.mono {l l' : List Pt} {a b c d : Nat} (h : Re l l' a b) (hc : c ≤ a) (hd : b ≤ d) : Re l l' c d :=
  ⟨h.perm, fun i hi => h.out i (by omega), fun i h1 h2 => by
    by_cases hi : a ≤ i ∧ i < b
    · obtain ⟨j, j1, j2, e⟩ := h.inn i hi.1 hi.2
      exact ⟨j, by omega, by omega, e⟩
    · exact ⟨i, h1, h2, h.out i (by omega)⟩⟩
theorem Re.swp2 {l : List Pt} {i j a b : Nat} (hi : a ≤ i ∧ i < b) (hj : a ≤ j ∧ j < b) (hb : b ≤ l.length) : Re l (swp2 l i j) a b := by
  refine ⟨swp2_perm (by omega) (by omega), fun k hk => ?_, fun k h1 h2 => ?_⟩
  · rw [swp2_at (by omega) (by omega), if_neg (by omega), if_neg (by omega)]
  · rw [swp2_at (by omega) (by omega)]
    split
    · exact ⟨i, hi.1, hi.2, rfl⟩
    · split
      · exact ⟨j, hj.1, hj.2, rfl⟩
      · exact ⟨k, h1, h2, rfl⟩

/-- Two blocks of n change places. -/
def swapF (l : List Pt) (a b : Nat) : Nat → List Pt
  | 0 => l
  | n + 1 => Go.Proofs.YtkpnffokjpgalaaGreat.swp2 (swapF l a b n) (a + n) (b + n)
theorem swapF_len (l : List Pt) (a b : Nat) : ∀ n, (swapF l a b n).length = l.length
  | 0 => rfl
  | n + 1 => by rw [swapF, swp2_len, swapF_len l a b n]
theorem swapF_re {l : List Pt} {a b c d : Nat} : ∀ {n : Nat}, c ≤ a → a + n ≤ b → b + n ≤ d → d ≤ l.length → Re l (swapF l a b n) c d
  | 0, _, _, _, _ => Re.refl _ _ _
  | n + 1, h1, h2, h3, h4 => (swapF_re (n := n) h1 (by omega) (by omega) h4).trans (Re.swp2 (by omega) (by omega) (by rw [swapF_len]; exact h4))
theorem swapF_at {l : List Pt} {a b : Nat} : ∀ {n : Nat}, a + n ≤ b → b + n ≤ l.length → ∀ k, at0 (swapF l a b n) k = if a ≤ k ∧ k < a + n then at0 l (k + (b - a)) else if b ≤ k ∧ k < b + n then at0 l (k - (b - a)) else at0 l k
  | 0, h1, h2, k => by
    rw [if_neg (by omega), if_neg (by omega)]; rfl
  | n + 1, h1, h2, k => by
    have ih := fun k => swapF_at (n := n) (l := l) (a := a) (b := b) (by omega) (by omega) k
    have hl := swapF_len l a b n
    have A : at0 (swapF l a b n) (a + n) = at0 l (a + n) := by rw [ih, if_neg (by omega), if_neg (by omega)]
    have B : at0 (swapF l a b n) (b + n) = at0 l (b + n) := by rw [ih, if_neg (by omega), if_neg (by omega)]
    rw [swapF, swp2_at (by omega) (by omega), A, B, ih k]
    by_cases e1 : k = b + n
    · rw [if_pos e1, if_neg (by omega), if_pos (by omega)]; congr 1; omega
    · rw [if_neg e1]
      by_cases e2 : k = a + n
      · rw [if_pos e2, if_pos (by omega)]; congr 1; omega
      · rw [if_neg e2]
        by_cases e3 : a ≤ k ∧ k < a + n
        · rw [if_pos e3, if_pos (by omega)]
        · rw [if_neg e3, if_neg (show ¬ (a ≤ k ∧ k < a + (n + 1)) by omega)]
          by_cases e4 : b ≤ k ∧ k < b + n
          · rw [if_pos e4, if_pos (by omega)]
          · rw [if_neg e4, if_neg (by omega)]
/-- The blocks from a to m and from m to b change places. -/
def Rot (l l' : List Pt) (a m b : Nat) : Prop := ∀ k, at0 l' k = if k < a ∨ b ≤ k then at0 l k else if k < a + (b - m) then at0 l (k + (m - a)) else at0 l (k - (b - m))
theorem Rot.none {l : List Pt} {a m b : Nat} (h : a ≤ m ∧ m ≤ b) (h2 : a = m ∨ m = b) : Rot l l a m b := fun k => by
  split
  · rfl
  · split
    · congr 1; omega
    · congr 1; omega
theorem Rot.left {l T : List Pt} {m i j : Nat} (hi : i ≤ m) (h : j < i) (hl : m + j ≤ l.length) (hT : Rot (swapF l (m - i) m j) T (m - (i - j)) m (m + j)) : Rot l T (m - i) m (m + j) := fun k => by
  have ih := fun k => swapF_at (n := j) (l := l) (a := m - i) (b := m) (by omega) (by omega) k
  rw [hT k, ih k, ih, ih]
  by_cases c1 : k < m - i ∨ m + j ≤ k
  · rw [if_pos c1, if_pos (by omega), if_neg (by omega), if_neg (by omega)]
  · rw [if_neg c1]
    by_cases c2 : k < m - i + j
    · rw [if_pos (by omega), if_pos (by omega), if_pos (by omega)]; (try (congr 1; omega))
    · rw [if_neg (by omega)]
      by_cases c3 : k < m - (i - j) + (m + j - m)
      · rw [if_pos c3, if_neg (by omega), if_pos (by omega), if_neg (by omega)]; congr 1; omega
      · rw [if_neg c3, if_neg (by omega), if_neg (by omega), if_neg (by omega)]
theorem Rot.right {l T : List Pt} {m i j : Nat} (hi : i ≤ m) (h : i < j) (hl : m + j ≤ l.length) (hT : Rot (swapF l (m - i) (m + j - i) i) T (m - i) m (m + (j - i))) : Rot l T (m - i) m (m + j) := fun k => by
  have ih := fun k => swapF_at (n := i) (l := l) (a := m - i) (b := m + j - i) (by omega) (by omega) k
  rw [hT k, ih k, ih, ih]
  by_cases c1 : k < m - i ∨ m + j ≤ k
  · rw [if_pos c1, if_pos (by omega), if_neg (by omega), if_neg (by omega)]
  · rw [if_neg c1]
    by_cases c2 : m + (j - i) ≤ k
    · rw [if_pos (by omega), if_neg (by omega), if_pos (by omega), if_neg (by omega)]; congr 1; omega
    · rw [if_neg (by omega)]
      by_cases c3 : k < m - i + (m + (j - i) - m)
      · rw [if_pos c3, if_neg (show ¬ (m - i ≤ k + (m - (m - i)) ∧ k + (m - (m - i)) < m - i + i) by omega), if_neg (show ¬ (m + j - i ≤ k + (m - (m - i)) ∧ k + (m - (m - i)) < m + j - i + i) by omega), if_pos (by omega)]
      · rw [if_neg c3, if_pos (by omega), if_pos (by omega)]; congr 1; omega
theorem Rot.same {l : List Pt} {m i : Nat} (hi : i ≤ m) (hl : m + i ≤ l.length) : Rot l (swapF l (m - i) m i) (m - i) m (m + i) := fun k => by
  rw [swapF_at (by omega) (by omega)]
  by_cases c1 : k < m - i ∨ m + i ≤ k
  · rw [if_pos c1, if_neg (by omega), if_neg (by omega)]
  · rw [if_neg c1]
    by_cases c2 : k < m
    · rw [if_pos (by omega), if_pos (by omega)]
    · rw [if_neg (by omega), if_pos (by omega), if_neg (by omega)]; congr 1; omega

/-- The element at a moves up to a + n. -/
def upF (l : List Pt) (a : Nat) : Nat → List Pt
  | 0 => l
  | n + 1 => Go.Proofs.YtkpnffokjpgalaaGreat.swp2 (upF l a n) (a + n) (a + n + 1)
theorem upF_len (l : List Pt) (a : Nat) : ∀ n, (upF l a n).length = l.length
  | 0 => rfl
  | n + 1 => by rw [upF, swp2_len, upF_len l a n]
theorem upF_re {l : List Pt} {a c d : Nat} : ∀ {n : Nat}, c ≤ a → a + n < d → d ≤ l.length → Re l (upF l a n) c d
  | 0, _, _, _ => Re.refl _ _ _
  | n + 1, h1, h2, h3 => (upF_re (n := n) h1 (by omega) h3).trans (Re.swp2 (by omega) (by omega) (by rw [upF_len]; exact h3))
theorem upF_at {l : List Pt} {a : Nat} : ∀ {n : Nat}, a + n < l.length → ∀ k, at0 (upF l a n) k = if a ≤ k ∧ k < a + n then at0 l (k + 1) else if k = a + n then at0 l a else at0 l k
  | 0, h, k => by
    rw [if_neg (by omega)]
    split
    · rename_i e; rw [e]; rfl
    · rfl
  | n + 1, h, k => by
    have ih := fun k => upF_at (n := n) (l := l) (a := a) (by omega) k
    have hl := upF_len l a n
    have A : at0 (upF l a n) (a + n) = at0 l a := by rw [ih, if_neg (by omega), if_pos rfl]
    have B : at0 (upF l a n) (a + n + 1) = at0 l (a + n + 1) := by rw [ih, if_neg (by omega), if_neg (by omega)]
    rw [upF, swp2_at (by omega) (by omega), A, B, ih k]
    by_cases e1 : k = a + n + 1
    · rw [if_pos e1, if_neg (by omega), if_pos (by omega)]
    · rw [if_neg e1]
      by_cases e2 : k = a + n
      · rw [if_pos e2, if_pos (by omega), e2]
      · rw [if_neg e2]
        by_cases e3 : a ≤ k ∧ k < a + n
        · rw [if_pos e3, if_pos (by omega)]
        · rw [if_neg e3, if_neg e2, if_neg (by omega), if_neg (by omega)]
/-- The element at b moves down to b - n. -/
def dnF (l : List Pt) (b : Nat) : Nat → List Pt
  | 0 => l
  | n + 1 => Go.Proofs.YtkpnffokjpgalaaGreat.swp2 (dnF l b n) (b - n) (b - n - 1)
theorem dnF_len (l : List Pt) (b : Nat) : ∀ n, (dnF l b n).length = l.length
  | 0 => rfl
  | n + 1 => by rw [dnF, swp2_len, dnF_len l b n]
theorem dnF_re {l : List Pt} {b c d : Nat} : ∀ {n : Nat}, n ≤ b → c ≤ b - n → b < d → d ≤ l.length → Re l (dnF l b n) c d
  | 0, _, _, _, _ => Re.refl _ _ _
  | n + 1, h0, h1, h2, h3 => (dnF_re (n := n) (by omega) (by omega) (by omega) h3).trans (Re.swp2 (by omega) (by omega) (by rw [dnF_len]; exact h3))
theorem dnF_at {l : List Pt} {b : Nat} (hb : b < l.length) : ∀ {n : Nat}, n ≤ b → ∀ k, at0 (dnF l b n) k = if b - n < k ∧ k ≤ b then at0 l (k - 1) else if k = b - n then at0 l b else at0 l k
  | 0, h, k => by
    rw [if_neg (by omega)]
    split
    · rename_i e; rw [e]; rfl
    · rfl
  | n + 1, h, k => by
    have ih := fun k => dnF_at (n := n) (l := l) (b := b) hb (by omega) k
    have hl := dnF_len l b n
    have A : at0 (dnF l b n) (b - n) = at0 l b := by rw [ih, if_neg (by omega), if_pos rfl]
    have B : at0 (dnF l b n) (b - n - 1) = at0 l (b - n - 1) := by rw [ih, if_neg (by omega), if_neg (by omega)]
    rw [dnF, swp2_at (by omega) (by omega), A, B, ih k]
    by_cases e1 : k = b - n - 1
    · rw [if_pos e1, if_neg (by omega), if_pos (by omega)]
    · rw [if_neg e1]
      by_cases e2 : k = b - n
      · rw [if_pos e2, if_pos (by omega), e2]
      · rw [if_neg e2]
        by_cases e3 : b - n < k ∧ k ≤ b
        · rw [if_pos e3, if_pos (by omega)]
        · rw [if_neg e3, if_neg e2, if_neg (by omega), if_neg (by omega)]

/-- An order of the elements of a kind. -/
structure OrdOn (D : Pt → Prop) (lt : Pt → Pt → Bool) : Prop where
  asym : ∀ x y, D x → D y → lt x y = true → lt y x = false
  ntrans : ∀ x y z, D x → D y → D z → lt y x = false → lt z y = false → lt z x = false
/-- The places from a to b are in order. -/
def Sd (lt : Pt → Pt → Bool) (l : List Pt) (a b : Nat) : Prop := ∀ i j, a ≤ i → i < j → j < b → lt (at0 l j) (at0 l i) = false
section
variable {D : Pt → Prop} {lt : Pt → Pt → Bool} {l l' : List Pt} {a m b s e : Nat}
theorem at0_D (h : ∀ x ∈ l, D x) {i : Nat} (hi : i < l.length) : D (at0 l i) := h _ (at0_mem hi)
theorem Re.allD (h : Re l l' a b) (hD : ∀ x ∈ l, D x) : ∀ x ∈ l', D x := fun x hx => hD x (h.perm.mem_iff.1 hx)
theorem OrdOn.trans (hO : OrdOn D lt) {x y z : Pt} (hx : D x) (hy : D y) (hz : D z) (h1 : lt x y = true) (h2 : lt z y = false) : lt x z = true := by
  cases h : lt x z
  · have := hO.ntrans z y x hz hy hx
    cases h3 : lt y z
    · exact absurd (hO.ntrans y z x hy hz hx h2 h) (by simp [h1])
    · exact absurd (hO.ntrans y z x hy hz hx h2 h) (by simp [h1])
  · rfl
theorem OrdOn.trans' (hO : OrdOn D lt) {x y z : Pt} (hx : D x) (hy : D y) (hz : D z) (h1 : lt y x = false) (h2 : lt y z = true) : lt x z = true := by
  cases h : lt x z
  · exact absurd (hO.ntrans z x y hz hx hy h h1) (by simp [h2])
  · rfl
theorem OrdOn.irrefl (hO : OrdOn D lt) {x : Pt} (hx : D x) : lt x x = false := by
  cases h : lt x x
  · rfl
  · exact absurd (hO.asym x x hx hx h) (by simp [h])
theorem Sd.le (hO : OrdOn D lt) (hD : ∀ x ∈ l, D x) (hb : b ≤ l.length) (h : Sd lt l a b) {i j : Nat} (h1 : a ≤ i) (h2 : i ≤ j) (h3 : j < b) : lt (at0 l j) (at0 l i) = false := by
  rcases Nat.lt_or_eq_of_le h2 with q | rfl
  · exact h i j h1 q h3
  · exact hO.irrefl (at0_D hD (by omega))
theorem Sd.sub (h : Sd lt l a b) {c d : Nat} (hc : a ≤ c) (hd : d ≤ b) : Sd lt l c d := fun i j h1 h2 h3 => h i j (by omega) h2 (by omega)
theorem Sd.out (h : Sd lt l a b) {c d : Nat} (hr : Re l l' c d) (ho : b ≤ c ∨ d ≤ a) : Sd lt l' a b := fun i j h1 h2 h3 => by
  rw [hr.out i (by omega), hr.out j (by omega)]; exact h i j h1 h2 h3
/-- One element put into a sorted range from the left. -/
theorem sd_up (hO : OrdOn D lt) (hD : ∀ x ∈ l, D x) (hb : b ≤ l.length) (ha : a < b) (h : Sd lt l (a + 1) b) {i : Nat} (h1 : a + 1 ≤ i) (h2 : i ≤ b)
    (hlo : ∀ t, a + 1 ≤ t → t < i → lt (at0 l t) (at0 l a) = true) (hhi : ∀ t, i ≤ t → t < b → lt (at0 l t) (at0 l a) = false) : Sd lt (upF l a (i - 1 - a)) a b := by
  have E := fun k => upF_at (l := l) (a := a) (n := i - 1 - a) (by omega) k
  intro x y hx hxy hy
  rw [E x, E y]
  by_cases c1 : a ≤ y ∧ y < a + (i - 1 - a)
  · rw [if_pos c1, if_pos (by omega)]
    exact h _ _ (by omega) (by omega) (by omega)
  · rw [if_neg c1]
    by_cases c2 : y = a + (i - 1 - a)
    · rw [if_pos c2, if_pos (by omega)]
      exact hO.asym _ _ (at0_D hD (by omega)) (at0_D hD (by omega)) (hlo _ (by omega) (by omega))
    · rw [if_neg c2]
      by_cases c3 : a ≤ x ∧ x < a + (i - 1 - a)
      · rw [if_pos c3]
        exact h _ _ (by omega) (by omega) (by omega)
      · rw [if_neg c3]
        by_cases c4 : x = a + (i - 1 - a)
        · rw [if_pos c4]
          exact hhi _ (by omega) (by omega)
        · rw [if_neg c4]
          exact h _ _ (by omega) (by omega) (by omega)
/-- One element put into a sorted range from the right. -/
theorem sd_dn (hO : OrdOn D lt) (hD : ∀ x ∈ l, D x) (hm : m < l.length) (h : Sd lt l a m) {i : Nat} (h1 : a ≤ i) (h2 : i ≤ m)
    (hlo : ∀ t, a ≤ t → t < i → lt (at0 l m) (at0 l t) = false) (hhi : ∀ t, i ≤ t → t < m → lt (at0 l m) (at0 l t) = true) : Sd lt (dnF l m (m - i)) a (m + 1) := by
  have E := fun k => dnF_at (l := l) (b := m) hm (n := m - i) (by omega) k
  intro x y hx hxy hy
  rw [E x, E y]
  by_cases c1 : m - (m - i) < x ∧ x ≤ m
  · rw [if_pos c1, if_pos (by omega)]
    exact h _ _ (by omega) (by omega) (by omega)
  · rw [if_neg c1]
    by_cases c2 : x = m - (m - i)
    · rw [if_pos c2, if_pos (by omega)]
      exact hO.asym _ _ (at0_D hD (by omega)) (at0_D hD (by omega)) (hhi _ (by omega) (by omega))
    · rw [if_neg c2]
      by_cases c3 : m - (m - i) < y ∧ y ≤ m
      · rw [if_pos c3]
        exact h _ _ (by omega) (by omega) (by omega)
      · rw [if_neg c3]
        by_cases c4 : y = m - (m - i)
        · rw [if_pos c4]
          exact hlo _ (by omega) (by omega)
        · rw [if_neg c4]
          exact h _ _ (by omega) (by omega) (by omega)

/-- Where symMerge looks first, and what it finds. -/
structure Cut (lt : Pt → Pt → Bool) (l : List Pt) (a m b s : Nat) : Prop where
  lo : a ≤ s
  sm : s ≤ m
  smid : s ≤ (a + b) / 2
  eb : (a + b) / 2 + m - s ≤ b
  left : ∀ t, a ≤ t → t < s → (a + b) / 2 + m - s < b → lt (at0 l ((a + b) / 2 + m - s)) (at0 l t) = false
  right : ∀ t, s ≤ t → t < m → m ≤ (a + b) / 2 + m - 1 - s → (a + b) / 2 + m - 1 - s < b → lt (at0 l ((a + b) / 2 + m - 1 - s)) (at0 l t) = true
theorem cut_of (hO : OrdOn D lt) (hD : ∀ x ∈ l, D x) (hb : b ≤ l.length) (ham : a < m) (hmb : m < b) (hl : Sd lt l a m) (hr : Sd lt l m b) {lo hi : Nat}
    (hlh : lo = (if (a + b) / 2 < m then (a + b) / 2 + m - b else a) ∧ hi = (if (a + b) / 2 < m then (a + b) / 2 else m)) (h1 : lo ≤ s) (h2 : s ≤ hi)
    (hf : lo < s → lt (at0 l ((a + b) / 2 + m - 1 - (s - 1))) (at0 l (s - 1)) = false) (ht : s < hi → lt (at0 l ((a + b) / 2 + m - 1 - s)) (at0 l s) = true) : Cut lt l a m b s := by
  have b1 : a ≤ lo ∧ hi ≤ m ∧ hi ≤ (a + b) / 2 ∧ (a + b) / 2 + m ≤ b + lo := by
    obtain ⟨e1, e2⟩ := hlh
    split at e1 <;> split at e2 <;> omega
  refine ⟨by omega, by omega, by omega, by omega, fun t t1 t2 t3 => ?_, fun t t1 t2 t3 t4 => ?_⟩
  · have hlos : lo < s := by
      obtain ⟨e1, e2⟩ := hlh
      split at e1 <;> split at e2 <;> omega
    have f := hf hlos
    have e : (a + b) / 2 + m - 1 - (s - 1) = (a + b) / 2 + m - s := by omega
    rw [e] at f
    have g := hl.le hO hD (by omega) (i := t) (j := s - 1) t1 (by omega) (by omega)
    exact hO.ntrans _ _ _ (at0_D hD (by omega)) (at0_D hD (by omega)) (at0_D hD (by omega)) g f
  · have hhi : s < hi := by
      obtain ⟨e1, e2⟩ := hlh
      split at e1 <;> split at e2 <;> omega
    have f := ht hhi
    have g := hl.le hO hD (by omega) (i := s) (j := t) (by omega) t1 t2
    exact hO.trans (at0_D hD (by omega)) (at0_D hD (by omega)) (at0_D hD (by omega)) f g
theorem Cut.sorted (hO : OrdOn D lt) (hD : ∀ x ∈ l, D x) (hb : b ≤ l.length) (ham : a < m) (hmb : m < b) (hl : Sd lt l a m) (hr : Sd lt l m b) (h : Cut lt l a m b s) {l' : List Pt} (hR : Rot l l' s m ((a + b) / 2 + m - s)) :
    Sd lt l' a s ∧ Sd lt l' s ((a + b) / 2) ∧ Sd lt l' ((a + b) / 2) ((a + b) / 2 + m - s) ∧ Sd lt l' ((a + b) / 2 + m - s) b ∧ ∀ i j, a ≤ i → i < (a + b) / 2 → (a + b) / 2 ≤ j → j < b → lt (at0 l' j) (at0 l' i) = false := by
  obtain ⟨q1, q2, q3, q4, q5, q6⟩ := h
  generalize hmid : (a + b) / 2 = mid at *
  have hmm : s ≤ m ∧ m ≤ mid + m - s := by omega
  have he1 : mid + m - 1 - s = mid + m - s - 1 := by omega
  rw [he1] at q6
  generalize he : mid + m - s = e at *
  have k1 : ∀ k, k < s → at0 l' k = at0 l k := fun k hk => by rw [hR k, if_pos (by omega)]
  have k2 : ∀ k, e ≤ k → at0 l' k = at0 l k := fun k hk => by rw [hR k, if_pos (by omega)]
  have k3 : ∀ k, s ≤ k → k < mid → at0 l' k = at0 l (k + (m - s)) := fun k h1 h2 => by rw [hR k, if_neg (by omega), if_pos (by omega)]
  have k4 : ∀ k, mid ≤ k → k < e → at0 l' k = at0 l (k - (e - m)) := fun k h1 h2 => by rw [hR k, if_neg (by omega), if_neg (by omega)]
  refine ⟨fun i j h1 h2 h3 => ?_, fun i j h1 h2 h3 => ?_, fun i j h1 h2 h3 => ?_, fun i j h1 h2 h3 => ?_, fun i j h1 h2 h3 h4 => ?_⟩
  · rw [k1 i (by omega), k1 j h3]; exact hl i j h1 h2 (by omega)
  · rw [k3 i h1 (by omega), k3 j (by omega) h3]; exact hr _ _ (by omega) (by omega) (by omega)
  · rw [k4 i h1 (by omega), k4 j (by omega) h3]; exact hl _ _ (by omega) (by omega) (by omega)
  · rw [k2 i h1, k2 j (by omega)]; exact hr _ _ (by omega) (by omega) h3
  · by_cases ci : i < s
    · rw [k1 i ci]
      by_cases cj : j < e
      · rw [k4 j h3 cj]; exact hl _ _ h1 (by omega) (by omega)
      · rw [k2 j (by omega)]
        have f := q5 i h1 ci (by omega)
        have g := hr.le hO hD hb (i := e) (j := j) (by omega) (by omega) h4
        exact hO.ntrans _ _ _ (at0_D hD (by omega)) (at0_D hD (by omega)) (at0_D hD (by omega)) f g
    · rw [k3 i (by omega) h2]
      by_cases cj : j < e
      · rw [k4 j h3 cj]
        have f := q6 (j - (e - m)) (by omega) (by omega) (by omega) (by omega)
        have g := hr.le hO hD hb (i := i + (m - s)) (j := e - 1) (by omega) (by omega) (by omega)
        exact hO.asym _ _ (at0_D hD (by omega)) (at0_D hD (by omega)) (hO.trans' (at0_D hD (by omega)) (at0_D hD (by omega)) (at0_D hD (by omega)) g f)
      · rw [k2 j (by omega)]; exact hr _ _ (by omega) (by omega) h4
theorem sd_join {l1 : List Pt} {c : Nat} (h1 : Re l l1 a c) (h2 : Re l1 l' c b) (hac : a ≤ c) (hcb : c ≤ b) (s1 : Sd lt l1 a c) (s2 : Sd lt l' c b)
    (hx : ∀ i j, a ≤ i → i < c → c ≤ j → j < b → lt (at0 l j) (at0 l i) = false) : Sd lt l' a b := fun i j q1 q2 q3 => by
  by_cases ci : i < c
  · by_cases cj : j < c
    · rw [h2.out i (by omega), h2.out j (by omega)]; exact s1 i j q1 q2 cj
    · rw [h2.out i (by omega)]
      obtain ⟨i', i1, i2, e1⟩ := h1.inn i q1 ci
      obtain ⟨j', j1, j2, e2⟩ := h2.inn j (by omega) q3
      rw [e1, e2, h1.out j' (by omega)]
      exact hx _ _ i1 i2 j1 j2
  · exact s2 i j (by omega) q2 q3
end
end Go.Proofs.YtkpnffokjpgalaaGreat
