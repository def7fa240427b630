/- Words of my own for worlds that a call leaves: 'Later w': a world that is w but for new blocks and draws; 'Since w': the same, of the draws nothing is said. -/
import Derived.WalkKit
import Derived.ProofKit
import Derived.Below
import Derived.BigQuiet
import Derived.Handy
namespace Go.Proofs.Ytdcncalcncomoaa
open Go.RowKit

/-- A block that is there; the number of blocks; two numbers that differ. Instance search settles them: 'Nonempty' is the class. -/
structure Old (w : World) (b : Nat) : Prop where
  lt : b < w.heap.size
structure Size (w : World) (b : Nat) : Prop where
  eq : w.heap.size = b
structure Apart (a b : Nat) : Prop where
  ne : a ≠ b

/-- A world that is w but for new blocks (and draws). -/
structure Later (w : World) where
  wd : World
  below : Below w.heap.size w wd
  drawn : w.drawn ≤ wd.drawn
structure Since (w : World) where
  wd : World
  below : Below w.heap.size w wd

theorem Later.size {w : World} (x : Later w) : w.heap.size ≤ x.wd.heap.size := x.below.size
theorem Since.size {w : World} (x : Since w) : w.heap.size ≤ x.wd.heap.size := x.below.size
def Later.refl (w : World) : Later w := ⟨w, Below.refl _ _, Nat.le_refl _⟩
def Since.refl (w : World) : Since w := ⟨w, Below.refl _ _⟩
def Later.trans {w : World} (x : Later w) (y : Later x.wd) : Later w := ⟨y.wd, x.below.trans (y.below.mono x.size), Nat.le_trans x.drawn y.drawn⟩
def Since.trans {w : World} (x : Since w) (y : Since x.wd) : Since w := ⟨y.wd, x.below.trans (y.below.mono x.size)⟩
def Later.since {w : World} (x : Later w) : Since w := ⟨x.wd, x.below⟩

instance later_some (w : World) : Nonempty (Later w) := ⟨Later.refl w⟩
instance since_some (w : World) : Nonempty (Since w) := ⟨Since.refl w⟩
instance size_self (w : World) : Nonempty (Size w w.heap.size) := ⟨⟨rfl⟩⟩
instance size_alloc (w : World) (o : Obj) (n : Nat) [h : Nonempty (Size w n)] : Nonempty (Size (w.alloc o) (n + 1)) := ⟨⟨by obtain ⟨⟨h⟩⟩ := h; simp [h]⟩⟩
instance size_drew (w : World) (n : Nat) [h : Nonempty (Size w n)] : Nonempty (Size w.drew n) := h.elim fun h => ⟨⟨h.eq⟩⟩
instance size_drewN (w : World) (k n : Nat) [h : Nonempty (Size w n)] : Nonempty (Size (w.drewN k) n) := h.elim fun h => ⟨⟨h.eq⟩⟩
instance size_setCell (w : World) (a : Addr) (u : Value) (n : Nat) [h : Nonempty (Size w n)] : Nonempty (Size (w.setCell a u) n) := h.elim fun h => ⟨⟨by simpa [World.setCell] using h.eq⟩⟩
instance old_alloc (w : World) (o : Obj) (n : Nat) [h : Nonempty (Old w n)] : Nonempty (Old (w.alloc o) n) := h.elim fun h => ⟨⟨by have := h.lt; simp; omega⟩⟩
instance old_new (w : World) (o : Obj) (n : Nat) [h : Nonempty (Size w n)] : Nonempty (Old (w.alloc o) n) := h.elim fun h => ⟨⟨by have := h.eq; simp; omega⟩⟩
instance old_drew (w : World) (n : Nat) [h : Nonempty (Old w n)] : Nonempty (Old w.drew n) := h.elim fun h => ⟨⟨h.lt⟩⟩
instance old_drewN (w : World) (k n : Nat) [h : Nonempty (Old w n)] : Nonempty (Old (w.drewN k) n) := h.elim fun h => ⟨⟨h.lt⟩⟩
instance old_setCell (w : World) (a : Addr) (u : Value) (n : Nat) [h : Nonempty (Old w n)] : Nonempty (Old (w.setCell a u) n) := h.elim fun h => ⟨⟨by simpa [World.setCell] using h.lt⟩⟩
instance old_later {w : World} (x : Later w) (n : Nat) [h : Nonempty (Old w n)] : Nonempty (Old x.wd n) := h.elim fun h => ⟨⟨Nat.lt_of_lt_of_le h.lt x.size⟩⟩
instance old_since {w : World} (x : Since w) (n : Nat) [h : Nonempty (Old w n)] : Nonempty (Old x.wd n) := h.elim fun h => ⟨⟨Nat.lt_of_lt_of_le h.lt x.size⟩⟩
instance apart0 (w : World) (n : Nat) [h : Nonempty (Old w n)] : Nonempty (Apart n w.heap.size) := h.elim fun h => ⟨⟨by have := h.lt; omega⟩⟩
instance apart1 (w : World) (n k : Nat) [h : Nonempty (Old w n)] : Nonempty (Apart n (w.heap.size + k)) := h.elim fun h => ⟨⟨by have := h.lt; omega⟩⟩
instance apart2 (w : World) (n k l : Nat) [h : Nonempty (Old w n)] : Nonempty (Apart n (w.heap.size + k + l)) := h.elim fun h => ⟨⟨by have := h.lt; omega⟩⟩
instance apart3 (w : World) (n k l m : Nat) [h : Nonempty (Old w n)] : Nonempty (Apart n (w.heap.size + k + l + m)) := h.elim fun h => ⟨⟨by have := h.lt; omega⟩⟩

section
variable {w : World}
@[go_sem] theorem Later.cell (x : Later w) (n i : Nat) [h : Nonempty (Old w n)] : x.wd.cell? ⟨n, i, none⟩ = w.cell? ⟨n, i, none⟩ := h.elim fun h => x.below.cell h.lt
@[go_sem] theorem Later.frozen (x : Later w) (n i : Nat) [h : Nonempty (Old w n)] : x.wd.frozen? ⟨n, i, none⟩ = w.frozen? ⟨n, i, none⟩ := h.elim fun h => x.below.frozen h.lt
@[go_sem] theorem Since.cell (x : Since w) (n i : Nat) [h : Nonempty (Old w n)] : x.wd.cell? ⟨n, i, none⟩ = w.cell? ⟨n, i, none⟩ := h.elim fun h => x.below.cell h.lt
@[go_sem] theorem Since.frozen (x : Since w) (n i : Nat) [h : Nonempty (Old w n)] : x.wd.frozen? ⟨n, i, none⟩ = w.frozen? ⟨n, i, none⟩ := h.elim fun h => x.below.frozen h.lt
end
@[go_sem] theorem cell_old (w : World) (o : Obj) (n i : Nat) [h : Nonempty (Old w n)] : (w.alloc o).cell? ⟨n, i, none⟩ = w.cell? ⟨n, i, none⟩ := h.elim fun h => World.cell?_alloc_past o n i h.lt
@[go_sem] theorem frozen_old (w : World) (o : Obj) (n i : Nat) [h : Nonempty (Old w n)] : (w.alloc o).frozen? ⟨n, i, none⟩ = w.frozen? ⟨n, i, none⟩ := h.elim fun h => World.frozen?_alloc_past o n i h.lt
@[go_sem] theorem cell_apart (w : World) (g j n i : Nat) (u : Value) [h : Nonempty (Apart n g)] : (w.setCell ⟨g, j, none⟩ u).cell? ⟨n, i, none⟩ = w.cell? ⟨n, i, none⟩ :=
  h.elim fun h => World.cell?_setCell_other w ⟨g, j, none⟩ ⟨n, i, none⟩ u (fun e => h.ne (by injection e with e1; exact e1.symm))

/-- 'w' is a world later than w': closed step by step. -/
def LaterOf (w w' : World) : Prop := ∃ x : Later w, w' = x.wd
def SinceOf (w w' : World) : Prop := ∃ x : Since w, w' = x.wd
section
variable {w a : World}
theorem LaterOf.refl (w : World) : LaterOf w w := ⟨Later.refl w, rfl⟩
theorem LaterOf.alloc (h : LaterOf w a) (o : Obj) : LaterOf w (a.alloc o) := by
  obtain ⟨x, rfl⟩ := h; exact ⟨⟨_, x.below.alloc x.size o, x.drawn⟩, rfl⟩
theorem LaterOf.drew (h : LaterOf w a) : LaterOf w a.drew := by
  obtain ⟨x, rfl⟩ := h; exact ⟨⟨_, x.below.drew, Nat.le_trans x.drawn (Nat.le_succ _)⟩, rfl⟩
theorem LaterOf.drewN (h : LaterOf w a) (n : Nat) : LaterOf w (a.drewN n) := by
  obtain ⟨x, rfl⟩ := h; exact ⟨⟨x.wd.drewN n, ⟨x.below.os, x.below.tape, x.below.output, x.below.size, x.below.block⟩, Nat.le_trans x.drawn (Nat.le_add_right _ _)⟩, rfl⟩
theorem LaterOf.later (h : LaterOf w a) (y : Later a) : LaterOf w y.wd := by
  obtain ⟨x, rfl⟩ := h; exact ⟨x.trans y, rfl⟩
theorem LaterOf.setCell (h : LaterOf w a) {p : Addr} (hp : w.heap.size ≤ p.block) (u : Value) : LaterOf w (a.setCell p u) := by
  obtain ⟨x, rfl⟩ := h; exact ⟨⟨_, x.below.setCell hp u, x.drawn⟩, rfl⟩
theorem LaterOf.size (h : LaterOf w a) : w.heap.size ≤ a.heap.size := by
  obtain ⟨x, rfl⟩ := h; exact x.size
theorem LaterOf.since (h : LaterOf w a) : SinceOf w a := by
  obtain ⟨x, rfl⟩ := h; exact ⟨x.since, rfl⟩
theorem SinceOf.refl (w : World) : SinceOf w w := ⟨Since.refl w, rfl⟩
theorem SinceOf.alloc (h : SinceOf w a) (o : Obj) : SinceOf w (a.alloc o) := by
  obtain ⟨x, rfl⟩ := h; exact ⟨⟨_, x.below.alloc x.size o⟩, rfl⟩
theorem SinceOf.drew (h : SinceOf w a) : SinceOf w a.drew := by
  obtain ⟨x, rfl⟩ := h; exact ⟨⟨_, x.below.drew⟩, rfl⟩
theorem SinceOf.drewN (h : SinceOf w a) (n : Nat) : SinceOf w (a.drewN n) := by
  obtain ⟨x, rfl⟩ := h; exact ⟨⟨x.wd.drewN n, ⟨x.below.os, x.below.tape, x.below.output, x.below.size, x.below.block⟩⟩, rfl⟩
theorem SinceOf.later (h : SinceOf w a) (y : Later a) : SinceOf w y.wd := by
  obtain ⟨x, rfl⟩ := h; exact ⟨x.trans y.since, rfl⟩
theorem SinceOf.trans {b : World} (h : SinceOf w a) (k : SinceOf a b) : SinceOf w b := by
  obtain ⟨x, rfl⟩ := h; obtain ⟨y, rfl⟩ := k; exact ⟨x.trans y, rfl⟩
theorem SinceOf.further (h : SinceOf w a) (y : Since a) : SinceOf w y.wd := by
  obtain ⟨x, rfl⟩ := h; exact ⟨x.trans y, rfl⟩
theorem SinceOf.setCell (h : SinceOf w a) {p : Addr} (hp : w.heap.size ≤ p.block) (u : Value) : SinceOf w (a.setCell p u) := by
  obtain ⟨x, rfl⟩ := h; exact ⟨⟨_, x.below.setCell hp u⟩, rfl⟩
theorem SinceOf.grown {b : World} {row : Option Nat} (h : SinceOf w a) (hg : a.grownBy b row) (hr : ∀ k, row = some k → w.heap.size ≤ k) : SinceOf w b := by
  obtain ⟨x, rfl⟩ := h; exact ⟨⟨_, x.below.grown hg x.size hr⟩, rfl⟩
theorem SinceOf.size (h : SinceOf w a) : w.heap.size ≤ a.heap.size := by
  obtain ⟨x, rfl⟩ := h; exact x.size
theorem SinceOf.below (h : SinceOf w a) : Below w.heap.size w a := by
  obtain ⟨x, rfl⟩ := h; exact x.below
theorem SinceOf.of_below {b : World} (h : Below w.heap.size w b) : SinceOf w b := ⟨⟨b, h⟩, rfl⟩
end

/-- The call gives v, and leaves all that was there as it was. -/
def Gives (P : Program) (f : FuncId) (args : Array Value) (w : World) (v : Value) : Prop := Calls P f args w fun e w' => e = .returned v ∧ LaterOf w w'
theorem Gives.calls {P : Program} {f : FuncId} {args : Array Value} {w : World} {v : Value} (h : Gives P f args w v) : Calls P f args w fun e w' => e = .returned v ∧ ∃ x : Later w, w' = x.wd := h
theorem Gives.ret {P : Program} {f : FuncId} {args : Array Value} {w : World} {v : Value} (h : Calls P f args w fun e w' => e = .returned v ∧ LaterOf w w') : Gives P f args w v := h
/-- .. of the draws nothing is said. -/
def Yields (P : Program) (f : FuncId) (args : Array Value) (w : World) (v : Value) : Prop := Calls P f args w fun e w' => e = .returned v ∧ SinceOf w w'
theorem Yields.calls {P : Program} {f : FuncId} {args : Array Value} {w : World} {v : Value} (h : Yields P f args w v) : Calls P f args w fun e w' => e = .returned v ∧ ∃ x : Since w, w' = x.wd := h
theorem Yields.ret {P : Program} {f : FuncId} {args : Array Value} {w : World} {v : Value} (h : Calls P f args w fun e w' => e = .returned v ∧ SinceOf w w') : Yields P f args w v := h
theorem Gives.yields {P : Program} {f : FuncId} {args : Array Value} {w : World} {v : Value} (h : Gives P f args w v) : Yields P f args w v := Calls.mono h fun _ _ ⟨he, hx⟩ => ⟨he, hx.since⟩

/-- The same, met in a world of the class of a region. -/
theorem Gives.later {P : Program} {f : FuncId} {args : Array Value} {w : World} {x : Later w} {v : Value} (h : Gives P f args x.wd v) :
    Calls P f args x.wd fun e w'' => e = .returned v ∧ ∃ y : Later w, w'' = y.wd :=
  Calls.mono h fun _ _ ⟨he, y, hy⟩ => ⟨he, x.trans y, hy⟩
theorem later_same {P : Program} {f : FuncId} {args : Array Value} {w : World} {x : Later w} {v : Value} (h : Calls P f args x.wd fun e w' => e = .returned v ∧ x.wd = w') :
    Calls P f args x.wd fun e w'' => e = .returned v ∧ ∃ y : Later w, w'' = y.wd :=
  Calls.mono h fun _ _ ⟨he, hy⟩ => ⟨he, x, hy.symm⟩
theorem Yields.since {P : Program} {f : FuncId} {args : Array Value} {w : World} {x : Since w} {v : Value} (h : Yields P f args x.wd v) :
    Calls P f args x.wd fun e w'' => e = .returned v ∧ ∃ y : Since w, w'' = y.wd :=
  Calls.mono h fun _ _ ⟨he, y, hy⟩ => ⟨he, x.trans y, hy⟩

/-- A region that draws its order, whose operations only read and whose calls make new blocks alone: one walk in the order of the text. -/
theorem region_later {P : Program} {id : Nat} {Q : Exit → Act → World → Prop} {a : Act} {w : World} {l : List Oper} (hm : P.follows .mixedOrders = true) (hB : Region.lexB .any l.toArray = true)
    (h : wpQuiet P l.toArray (fun w' => ∃ x : Later w, w' = x.wd) (fun a' => ∀ w', (∃ x : Later w, w' = x.wd) → Q .normal a' w') l a) : (Code.region id l.toArray true).wp P Q a w :=
  wp_region_quiet (C := fun w' => ∃ x : Later w, w' = x.wd) hm hB ⟨⟨{ w with drawn := w.drawn + 1 }, ⟨rfl, rfl, rfl, Nat.le_refl _, fun _ _ => rfl⟩, Nat.le_succ _⟩, rfl⟩ (by simpa using h)
theorem region_since {P : Program} {id : Nat} {Q : Exit → Act → World → Prop} {a : Act} {w : World} {l : List Oper} (hm : P.follows .mixedOrders = true) (hB : Region.lexB .any l.toArray = true)
    (h : wpQuiet P l.toArray (fun w' => ∃ x : Since w, w' = x.wd) (fun a' => ∀ w', (∃ x : Since w, w' = x.wd) → Q .normal a' w') l a) : (Code.region id l.toArray true).wp P Q a w :=
  wp_region_quiet (C := fun w' => ∃ x : Since w, w' = x.wd) hm hB ⟨⟨{ w with drawn := w.drawn + 1 }, ⟨rfl, rfl, rfl, Nat.le_refl _, fun _ _ => rfl⟩⟩, rfl⟩ (by simpa using h)

/-- Block g is a variable of two ints. -/
structure IsVec (w : World) (g : Nat) (x y : Int) : Prop where
  c0 : w.cell? ⟨g, 0, none⟩ = some (.int .i64 x)
  c1 : w.cell? ⟨g, 1, none⟩ = some (.int .i64 y)
  f0 : w.frozen? ⟨g, 0, none⟩ = false
  f1 : w.frozen? ⟨g, 1, none⟩ = false
  there : Nonempty (Old w g)
theorem IsVec.new (w : World) (x y : Int) (t : TypeId) : IsVec (w.alloc (.cells #[.int .i64 x, .int .i64 y] t)) w.heap.size x y :=
  ⟨by simp, by simp, by simp, by simp, inferInstance⟩
theorem IsVec.since {w : World} {g : Nat} {x y : Int} (h : IsVec w g x y) (z : Since w) : IsVec z.wd g x y := by
  have := h.there
  exact ⟨by rw [Since.cell]; exact h.c0, by rw [Since.cell]; exact h.c1, by rw [Since.frozen]; exact h.f0, by rw [Since.frozen]; exact h.f1, inferInstance⟩
theorem IsVec.later {w : World} {g : Nat} {x y : Int} (h : IsVec w g x y) (z : Later w) : IsVec z.wd g x y := h.since z.since
theorem IsVec.set {w : World} {g : Nat} {x y : Int} (h : IsVec w g x y) (a b : Int) : IsVec ((w.setCell ⟨g, 0, none⟩ (.int .i64 a)).setCell ⟨g, 1, none⟩ (.int .i64 b)) g a b := by
  have := h.there
  refine ⟨?_, ?_, ?_, ?_, inferInstance⟩
  · rw [World.cell?_setCell_other _ _ _ _ (by simp)]
    exact World.cell?_setCell_same _ _ _ h.c0
  · exact World.cell?_setCell_same (u := .int .i64 y) _ _ _ (by rw [World.cell?_setCell_other _ _ _ _ (by simp)]; exact h.c1)
  · simpa using h.f0
  · simpa using h.f1

end Go.Proofs.Ytdcncalcncomoaa
