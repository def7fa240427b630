/- Words of my own for worlds that a call leaves: 'Later w': a world that is w but for new blocks and draws; 'Since w': the same, of the draws nothing is said. -/
import Derived.WalkKit
import Derived.ProofKit
import Derived.Below
import Derived.BigQuiet
import Derived.Handy
import Derived.Deep.RegionHeld3
import Derived.Laws.OwnMore
import Derived.Laws.AppendOwnNone
import Derived.Maps.AppendAt
import Derived.Deep.AppendLies
namespace Go.Proofs.YtpaojgfmffkodaaGreat
set_option linter.unusedVariables false
set_option linter.unusedSimpArgs false
open Go.RowKit
structure Old (w : World) (b : Nat) : Prop where
  lt : b < w.heap.size
structure Size (w : World) (b : Nat) : Prop where
  eq : w.heap.size = b
structure Apart (a b : Nat) : Prop where
  ne : a ≠ b
structure Later (w : World) where
  wd : World
  below : Below w.heap.size w wd
  drawn : w.drawn ≤ wd.drawn
structure Since (w : World) where
  wd : World
  below : Below w.heap.size w wd
theorem Later.size {w : World} (x : Later w) : w.heap.size ≤ x.wd.heap.size := x.below.size
theorem Since.size {w : World} (x : Since w) : w.heap.size ≤ x.wd.heap.size := x.below.size
def Later.refl (w : World) : Later w := ⟨w, Below.refl _ _, Nat.le_refl _⟩
def Since.refl (w : World) : Since w := ⟨w, Below.refl _ _⟩
def Later.trans {w : World} (x : Later w) (y : Later x.wd) : Later w := ⟨y.wd, x.below.trans (y.below.mono x.size), Nat.le_trans x.drawn y.drawn⟩
def Since.trans {w : World} (x : Since w) (y : Since x.wd) : Since w := ⟨y.wd, x.below.trans (y.below.mono x.size)⟩
def Later.since {w : World} (x : Later w) : Since w := ⟨x.wd, x.below⟩
instance later_some (w : World) : Nonempty (Later w) := ⟨Later.refl w⟩
instance since_some (w : World) : Nonempty (Since w) := ⟨Since.refl w⟩
instance size_self (w : World) : Nonempty (Size w w.heap.size) := ⟨⟨rfl⟩⟩
instance size_alloc (w : World) (o : Obj) (n : Nat) [h : Nonempty (Size w n)] : Nonempty (Size (w.alloc o) (n + 1)) := ⟨⟨by obtain ⟨⟨h⟩⟩ := h; simp [h]⟩⟩
instance size_drew (w : World) (n : Nat) [h : Nonempty (Size w n)] : Nonempty (Size w.drew n) := h.elim fun h => ⟨⟨h.eq⟩⟩
instance size_drewN (w : World) (k n : Nat) [h : Nonempty (Size w n)] : Nonempty (Size (w.drewN k) n) := h.elim fun h => ⟨⟨h.eq⟩⟩
instance size_setCell (w : World) (a : Addr) (u : Value) (n : Nat) [h : Nonempty (Size w n)] : Nonempty (Size (w.setCell a u) n) := h.elim fun h => ⟨⟨by simpa [World.setCell] using h.eq⟩⟩
instance old_alloc (w : World) (o : Obj) (n : Nat) [h : Nonempty (Old w n)] : Nonempty (Old (w.alloc o) n) := h.elim fun h => ⟨⟨by have := h.lt; simp; omega⟩⟩
instance old_new (w : World) (o : Obj) (n : Nat) [h : Nonempty (Size w n)] : Nonempty (Old (w.alloc o) n) := h.elim fun h => ⟨⟨by have := h.eq; simp; omega⟩⟩
instance old_drew (w : World) (n : Nat) [h : Nonempty (Old w n)] : Nonempty (Old w.drew n) := h.elim fun h => ⟨⟨h.lt⟩⟩
instance old_drewN (w : World) (k n : Nat) [h : Nonempty (Old w n)] : Nonempty (Old (w.drewN k) n) := h.elim fun h => ⟨⟨h.lt⟩⟩
instance old_setCell (w : World) (a : Addr) (u : Value) (n : Nat) [h : Nonempty (Old w n)] : Nonempty (Old (w.setCell a u) n) := h.elim fun h => ⟨⟨by simpa [World.setCell] using h.lt⟩⟩
instance old_later {w : World} (x : Later w) (n : Nat) [h : Nonempty (Old w n)] : Nonempty (Old x.wd n) := h.elim fun h => ⟨⟨Nat.lt_of_lt_of_le h.lt x.size⟩⟩
instance old_since {w : World} (x : Since w) (n : Nat) [h : Nonempty (Old w n)] : Nonempty (Old x.wd n) := h.elim fun h => ⟨⟨Nat.lt_of_lt_of_le h.lt x.size⟩⟩
instance apart0 (w : World) (n : Nat) [h : Nonempty (Old w n)] : Nonempty (Apart n w.heap.size) := h.elim fun h => ⟨⟨by have := h.lt; omega⟩⟩
instance apart1 (w : World) (n k : Nat) [h : Nonempty (Old w n)] : Nonempty (Apart n (w.heap.size + k)) := h.elim fun h => ⟨⟨by have := h.lt; omega⟩⟩
instance apart2 (w : World) (n k l : Nat) [h : Nonempty (Old w n)] : Nonempty (Apart n (w.heap.size + k + l)) := h.elim fun h => ⟨⟨by have := h.lt; omega⟩⟩
instance apart3 (w : World) (n k l m : Nat) [h : Nonempty (Old w n)] : Nonempty (Apart n (w.heap.size + k + l + m)) := h.elim fun h => ⟨⟨by have := h.lt; omega⟩⟩
section
variable {w : World}
@[go_sem] theorem Later.cell (x : Later w) (n i : Nat) [h : Nonempty (Old w n)] : x.wd.cell? ⟨n, i, none⟩ = w.cell? ⟨n, i, none⟩ := h.elim fun h => x.below.cell h.lt
@[go_sem] theorem Later.frozen (x : Later w) (n i : Nat) [h : Nonempty (Old w n)] : x.wd.frozen? ⟨n, i, none⟩ = w.frozen? ⟨n, i, none⟩ := h.elim fun h => x.below.frozen h.lt
@[go_sem] theorem Since.cell (x : Since w) (n i : Nat) [h : Nonempty (Old w n)] : x.wd.cell? ⟨n, i, none⟩ = w.cell? ⟨n, i, none⟩ := h.elim fun h => x.below.cell h.lt
@[go_sem] theorem Since.frozen (x : Since w) (n i : Nat) [h : Nonempty (Old w n)] : x.wd.frozen? ⟨n, i, none⟩ = w.frozen? ⟨n, i, none⟩ := h.elim fun h => x.below.frozen h.lt
end
@[go_sem] theorem cell_old (w : World) (o : Obj) (n i : Nat) [h : Nonempty (Old w n)] : (w.alloc o).cell? ⟨n, i, none⟩ = w.cell? ⟨n, i, none⟩ := h.elim fun h => World.cell?_alloc_past o n i h.lt
@[go_sem] theorem frozen_old (w : World) (o : Obj) (n i : Nat) [h : Nonempty (Old w n)] : (w.alloc o).frozen? ⟨n, i, none⟩ = w.frozen? ⟨n, i, none⟩ := h.elim fun h => World.frozen?_alloc_past o n i h.lt
@[go_sem] theorem cell_apart (w : World) (g j n i : Nat) (u : Value) [h : Nonempty (Apart n g)] : (w.setCell ⟨g, j, none⟩ u).cell? ⟨n, i, none⟩ = w.cell? ⟨n, i, none⟩ :=
  h.elim fun h => World.cell?_setCell_other w ⟨g, j, none⟩ ⟨n, i, none⟩ u (fun e => h.ne (by injection e with e1; exact e1.symm))
def LaterOf (w w' : World) : Prop := ∃ x : Later w, w' = x.wd
def SinceOf (w w' : World) : Prop := ∃ x : Since w, w' = x.wd
section
variable {w a : World}
theorem LaterOf.refl (w : World) : LaterOf w w := ⟨Later.refl w, rfl⟩
theorem LaterOf.alloc (h : LaterOf w a) (o : Obj) : LaterOf w (a.alloc o) := by
  obtain ⟨x, rfl⟩ := h; exact ⟨⟨_, x.below.alloc x.size o, x.drawn⟩, rfl⟩
theorem LaterOf.drew (h : LaterOf w a) : LaterOf w a.drew := by
  obtain ⟨x, rfl⟩ := h; exact ⟨⟨_, x.below.drew, Nat.le_trans x.drawn (Nat.le_succ _)⟩, rfl⟩
theorem LaterOf.drewN (h : LaterOf w a) (n : Nat) : LaterOf w (a.drewN n) := by
  obtain ⟨x, rfl⟩ := h; exact ⟨⟨x.wd.drewN n, ⟨x.below.os, x.below.tape, x.below.output, x.below.size, x.below.block⟩, Nat.le_trans x.drawn (Nat.le_add_right _ _)⟩, rfl⟩
theorem LaterOf.later (h : LaterOf w a) (y : Later a) : LaterOf w y.wd := by
  obtain ⟨x, rfl⟩ := h; exact ⟨x.trans y, rfl⟩
theorem LaterOf.setCell (h : LaterOf w a) {p : Addr} (hp : w.heap.size ≤ p.block) (u : Value) : LaterOf w (a.setCell p u) := by
  obtain ⟨x, rfl⟩ := h; exact ⟨⟨_, x.below.setCell hp u, x.drawn⟩, rfl⟩
theorem LaterOf.size (h : LaterOf w a) : w.heap.size ≤ a.heap.size := by
  obtain ⟨x, rfl⟩ := h; exact x.size
theorem LaterOf.since (h : LaterOf w a) : SinceOf w a := by
  obtain ⟨x, rfl⟩ := h; exact ⟨x.since, rfl⟩
theorem SinceOf.refl (w : World) : SinceOf w w := ⟨Since.refl w, rfl⟩
theorem SinceOf.alloc (h : SinceOf w a) (o : Obj) : SinceOf w (a.alloc o) := by
  obtain ⟨x, rfl⟩ := h; exact ⟨⟨_, x.below.alloc x.size o⟩, rfl⟩
theorem SinceOf.drew (h : SinceOf w a) : SinceOf w a.drew := by
  obtain ⟨x, rfl⟩ := h; exact ⟨⟨_, x.below.drew⟩, rfl⟩
theorem SinceOf.drewN (h : SinceOf w a) (n : Nat) : SinceOf w (a.drewN n) := by
  obtain ⟨x, rfl⟩ := h; exact ⟨⟨x.wd.drewN n, ⟨x.below.os, x.below.tape, x.below.output, x.below.size, x.below.block⟩⟩, rfl⟩
theorem SinceOf.later (h : SinceOf w a) (y : Later a) : SinceOf w y.wd := by
  obtain ⟨x, rfl⟩ := h; exact ⟨x.trans y.since, rfl⟩
theorem SinceOf.trans {b : World} (h : SinceOf w a) (k : SinceOf a b) : SinceOf w b := by
  obtain ⟨x, rfl⟩ := h; obtain ⟨y, rfl⟩ := k; exact ⟨x.trans y, rfl⟩
theorem SinceOf.further (h : SinceOf w a) (y : Since a) : SinceOf w y.wd := by
  obtain ⟨x, rfl⟩ := h; exact ⟨x.trans y, rfl⟩
theorem SinceOf.setCell (h : SinceOf w a) {p : Addr} (hp : w.heap.size ≤ p.block) (u : Value) : SinceOf w (a.setCell p u) := by
  obtain ⟨x, rfl⟩ := h; exact ⟨⟨_, x.below.setCell hp u⟩, rfl⟩
theorem SinceOf.grown {b : World} {row : Option Nat} (h : SinceOf w a) (hg : a.grownBy b row) (hr : ∀ k, row = some k → w.heap.size ≤ k) : SinceOf w b := by
  obtain ⟨x, rfl⟩ := h; exact ⟨⟨_, x.below.grown hg x.size hr⟩, rfl⟩
theorem SinceOf.size (h : SinceOf w a) : w.heap.size ≤ a.heap.size := by
  obtain ⟨x, rfl⟩ := h; exact x.size
theorem SinceOf.below (h : SinceOf w a) : Below w.heap.size w a := by
  obtain ⟨x, rfl⟩ := h; exact x.below
theorem SinceOf.of_below {b : World} (h : Below w.heap.size w b) : SinceOf w b := ⟨⟨b, h⟩, rfl⟩
end
def Gives (P : Program) (f : FuncId) (args : Array Value) (w : World) (v : Value) : Prop := Calls P f args w fun e w' => e = .returned v ∧ LaterOf w w'
theorem Gives.calls {P : Program} {f : FuncId} {args : Array Value} {w : World} {v : Value} (h : Gives P f args w v) : Calls P f args w fun e w' => e = .returned v ∧ ∃ x : Later w, w' = x.wd := h
theorem Gives.ret {P : Program} {f : FuncId} {args : Array Value} {w : World} {v : Value} (h : Calls P f args w fun e w' => e = .returned v ∧ LaterOf w w') : Gives P f args w v := h
def Yields (P : Program) (f : FuncId) (args : Array Value) (w : World) (v : Value) : Prop := Calls P f args w fun e w' => e = .returned v ∧ SinceOf w w'
theorem Yields.calls {P : Program} {f : FuncId} {args : Array Value} {w : World} {v : Value} (h : Yields P f args w v) : Calls P f args w fun e w' => e = .returned v ∧ ∃ x : Since w, w' = x.wd := h
theorem Yields.ret {P : Program} {f : FuncId} {args : Array Value} {w : World} {v : Value} (h : Calls P f args w fun e w' => e = .returned v ∧ SinceOf w w') : Yields P f args w v := h
theorem Gives.later {P : Program} {f : FuncId} {args : Array Value} {w : World} {x : Later w} {v : Value} (h : Gives P f args x.wd v) :
    Calls P f args x.wd fun e w'' => e = .returned v ∧ ∃ y : Later w, w'' = y.wd :=
  Calls.mono h fun _ _ ⟨he, y, hy⟩ => ⟨he, x.trans y, hy⟩
theorem Yields.since {P : Program} {f : FuncId} {args : Array Value} {w : World} {x : Since w} {v : Value} (h : Yields P f args x.wd v) :
    Calls P f args x.wd fun e w'' => e = .returned v ∧ ∃ y : Since w, w'' = y.wd :=
  Calls.mono h fun _ _ ⟨he, y, hy⟩ => ⟨he, x.trans y, hy⟩
theorem region_later {P : Program} {id : Nat} {Q : Exit → Act → World → Prop} {a : Act} {w : World} {l : List Oper} (hm : P.follows .mixedOrders = true) (hB : Region.lexB .any l.toArray = true)
    (h : wpQuiet P l.toArray (fun w' => ∃ x : Later w, w' = x.wd) (fun a' => ∀ w', (∃ x : Later w, w' = x.wd) → Q .normal a' w') l a) : (Code.region id l.toArray true).wp P Q a w :=
  wp_region_quiet (C := fun w' => ∃ x : Later w, w' = x.wd) hm hB ⟨⟨{ w with drawn := w.drawn + 1 }, ⟨rfl, rfl, rfl, Nat.le_refl _, fun _ _ => rfl⟩, Nat.le_succ _⟩, rfl⟩ (by simpa using h)
end Go.Proofs.YtpaojgfmffkodaaGreat
/- A region that draws its order, loads cells and stores into them at its end: what must hold of the world is not asked behind the closing stores. -/
namespace Go.Proofs.YtpaojgfmffkodaaGreat
set_option linter.unusedVariables false
set_option linter.unusedSimpArgs false
open Go.RowKit
section
variable {P : Program} {ops : Array Oper} {Q : Exit → Act → World → Prop} {md : Region.Mode} {S : World → Prop} {X : List Nat}
def wpAnyL (P : Program) (md : Region.Mode) (ops : Array Oper) (Q : Exit → Act → World → Prop) (S : World → Prop) (X : List Nat) : Nat → Array Bool → Act → World → Prop
  | 0, listed, a, w => Region.ready md ops listed = [] ∧ Q .normal a w
  | fuel + 1, listed, a, w =>
    (Region.ready md ops listed = [] → Q .normal a w) ∧
    ∀ i ∈ Region.ready md ops listed, wpOp P ops Q i (fun a' w' => (X.contains i = false → S w') ∧ wpAnyL P md ops Q S X fuel (listed.setIfInBounds i true) a' w') a w
theorem wpAny_of_L : ∀ (fuel : Nat) (listed : Array Bool) (a : Act) (w : World), wpAnyL P md ops Q S X fuel listed a w → wpAny P md ops Q fuel listed a w
  | 0, _, _, _, h => h
  | fuel + 1, _, _, _, h => ⟨h.1, fun i hi => wpOp_mono (fun a' w' h' => wpAny_of_L fuel _ a' w' h'.2) (h.2 i hi)⟩
def ClosedL (md : Region.Mode) (ops : Array Oper) (listed : Array Bool) : Prop := ∀ (j : Nat) (oj : Oper), ops[j]? = some oj → listed.getD j false = true → ∀ e ∈ oj.after, Region.binds md e = true → listed.getD e.on false = true
def closedB (md : Region.Mode) (ops : Array Oper) (listed : Array Bool) : Bool := (List.range ops.size).all fun j => !listed.getD j false || (match ops[j]? with | none => true | some o => o.after.all fun e => !Region.binds md e || listed.getD e.on false)
theorem closedB_spec {listed : Array Bool} (h : closedB md ops listed = true) : ClosedL md ops listed := by
  intro j oj hj hl e he hb
  unfold closedB at h
  rw [List.all_eq_true] at h
  have hlt : j < ops.size := by
    rcases Nat.lt_or_ge j ops.size with h1 | h1
    · exact h1
    · rw [Array.getElem?_eq_none h1] at hj; cases hj
  have := h j (List.mem_range.2 hlt)
  rw [hl, hj] at this
  simp only [Bool.not_true, Bool.false_or] at this
  rw [Array.all_eq_true'] at this
  have h2 := this e he
  rw [hb] at h2
  simpa using h2
def waitsB (md : Region.Mode) (ops : Array Oper) (i : Nat) : Nat → Nat → Bool
  | 0, _ => false
  | f + 1, x => match ops[x]? with
    | none => false
    | some o => o.after.any fun e => Region.binds md e && (e.on == i || waitsB md ops i f e.on)
theorem waits_listed {i : Nat} {listed : Array Bool} (hc : ClosedL md ops listed) : ∀ (f x : Nat), waitsB md ops i f x = true → (∀ o, ops[x]? = some o → ∀ e ∈ o.after, Region.binds md e = true → listed.getD e.on false = true) → listed.getD i false = true
  | 0, x, h, _ => by cases h
  | f + 1, x, h, hx => by
    unfold waitsB at h
    cases ho : ops[x]? with
    | none => rw [ho] at h; cases h
    | some o =>
      rw [ho] at h
      simp only [Array.any_eq_true'] at h
      obtain ⟨e, he, h2⟩ := h
      rw [Bool.and_eq_true, Bool.or_eq_true, beq_iff_eq] at h2
      obtain ⟨hb, h3⟩ := h2
      have hl := hx o ho e he hb
      rcases h3 with rfl | h3
      · exact hl
      · exact waits_listed hc f e.on h3 (fun o2 ho2 e2 he2 hb2 => hc e.on o2 ho2 hl e2 he2 hb2)
theorem getD_clash {listed : Array Bool} {i : Nat} (h1 : listed.getD i true = false) (h2 : listed.getD i false = true) : False := by
  rcases Nat.lt_or_ge i listed.size with h | h
  · simp [h] at h1 h2
    rw [h1] at h2
    cases h2
  · simp [Array.getElem?_eq_none h] at h1
theorem wpAnyL_first {i : Nat} {oi : Oper} {v : Value} (hi : ops[i]? = some oi) (hsel : ∀ (j : Nat) (o : Oper) cs b, ops[j]? = some o → o.op ≠ .select cs b)
    (hQ : ∀ c a w, Q (.panic c) (a.put oi.dst v) w → Q (.panic c) a w) :
    ∀ (fuel : Nat) (listed : Array Bool) (a : Act) (w : World), ClosedL md ops listed → (∀ x, X.contains x = true → listed.getD x false = true ∨ waitsB md ops i ops.size x = true) →
      (∀ j oj, ops[j]? = some oj → j ≠ i → listed.getD j true = false → (∀ e ∈ oj.after, Region.binds md e = true → e.on ≠ i) → oi.apart ops oj = true) →
      i ∈ Region.ready md ops listed → YieldsIf P ops S oi v a → S w →
      wpAnyL P md ops Q S X fuel (listed.setIfInBounds i true) (a.put oi.dst v) w → wpAnyL P md ops Q S X (fuel + 1) listed a w := by
  intro fuel
  induction fuel with
  | zero =>
    intro listed a w _ _ _ hr hy hS H
    refine ⟨fun h => (by rw [h] at hr; cases hr), fun j hj => ?_⟩
    by_cases hji : j = i
    · subst hji; exact hy.wpOp hi hS ⟨fun _ => hS, H⟩
    · have := ready_mono hj hji
      rw [H.1] at this
      cases this
  | succ fuel ih =>
    intro listed a w hc hX hfree hr hy hS H
    refine ⟨fun h => (by rw [h] at hr; cases hr), fun j hj => ?_⟩
    by_cases hji : j = i
    · subst hji; exact hy.wpOp hi hS ⟨fun _ => hS, H⟩
    · have h1 := H.2 j (ready_mono hj hji)
      obtain ⟨hjun, oj, hoj, hall⟩ := mem_ready.1 hj
      have hiun := (mem_ready.1 hr).1
      have hnot : ∀ e ∈ oj.after, Region.binds md e = true → e.on ≠ i := fun e he hb heq => by
        have h1 := hall e he hb
        rw [heq] at h1
        exact getD_clash hiun h1
      have hjX : X.contains j = false := by
        cases hx : X.contains j with
        | false => rfl
        | true =>
          rcases hX j hx with h9 | h9
          · exact (getD_clash hjun h9).elim
          exact (getD_clash hiun (waits_listed hc ops.size j h9 (fun o ho e he hb => by
            rw [hoj] at ho
            injection ho with ho
            subst ho
            exact hall e he hb))).elim
      have h2 := wpOp_putIf hoj (hfree j oj hoj hji hjun hnot) (fun cs b => hsel i oi cs b hi) (fun cs b => hsel j oj cs b hoj) hQ hy h1
      have hfree' : ∀ k ok, ops[k]? = some ok → k ≠ i → (listed.setIfInBounds j true).getD k true = false →
          (∀ e ∈ ok.after, Region.binds md e = true → e.on ≠ i) → oi.apart ops ok = true := fun k ok hk hki hun hno => by
        refine hfree k ok hk hki ?_ hno
        by_cases hjk : j = k
        · subst hjk; exact hjun
        · rw [getD_set_ne true hjk] at hun; exact hun
      have hc' : ClosedL md ops (listed.setIfInBounds j true) := by
        intro k ok hk hl e he hb
        by_cases hjk : j = k
        · subst hjk
          rw [hoj] at hk
          injection hk with hk
          subst hk
          exact getD_set_true (hall e he hb)
        · rw [getD_set_ne false hjk] at hl
          exact getD_set_true (hc k ok hk hl e he hb)
      refine wpOp_mono (fun a' w' h3 => ⟨h3.2.1, ih (listed.setIfInBounds j true) a' w' hc' (fun x hx => (hX x hx).imp getD_set_true id) hfree' (ready_mono hr (Ne.symm hji)) h3.1 (h3.2.1 hjX) ?_⟩) h2
      rw [Array.setIfInBounds_comm _ _ hji]
      exact h3.2.2
theorem wpAnyL_firstW {i : Nat} {oi : Oper} {v : Value} (hi : ops[i]? = some oi) (hsel : ∀ (j : Nat) (o : Oper) cs b, ops[j]? = some o → o.op ≠ .select cs b)
    (hQ : ∀ c a w, Q (.panic c) (a.put oi.dst v) w → Q (.panic c) a w) (hX : X.contains i = true) :
    ∀ (fuel : Nat) (listed : Array Bool) (a : Act) (w : World),
      (∀ j oj, ops[j]? = some oj → j ≠ i → listed.getD j true = false → (∀ e ∈ oj.after, Region.binds md e = true → e.on ≠ i) → oi.apart ops oj = true) →
      i ∈ Region.ready md ops listed → YieldsIf P ops (fun _ => True) oi v a →
      wpAnyL P md ops Q S X fuel (listed.setIfInBounds i true) (a.put oi.dst v) w → wpAnyL P md ops Q S X (fuel + 1) listed a w := by
  intro fuel
  induction fuel with
  | zero =>
    intro listed a w _ hr hy H
    refine ⟨fun h => (by rw [h] at hr; cases hr), fun j hj => ?_⟩
    by_cases hji : j = i
    · (have hX := hX); subst hji; exact hy.wpOp hi trivial ⟨(fun h0 => by rw [hX] at h0; cases h0), H⟩
    · have := ready_mono hj hji
      rw [H.1] at this
      cases this
  | succ fuel ih =>
    intro listed a w hfree hr hy H
    refine ⟨fun h => (by rw [h] at hr; cases hr), fun j hj => ?_⟩
    by_cases hji : j = i
    · (have hX := hX); subst hji; exact hy.wpOp hi trivial ⟨(fun h0 => by rw [hX] at h0; cases h0), H⟩
    · have h1 := H.2 j (ready_mono hj hji)
      obtain ⟨hjun, oj, hoj, hall⟩ := mem_ready.1 hj
      have hiun := (mem_ready.1 hr).1
      have hnot : ∀ e ∈ oj.after, Region.binds md e = true → e.on ≠ i := fun e he hb heq => by
        have h1 := hall e he hb
        rw [heq] at h1
        exact getD_clash hiun h1
      have h2 := wpOp_putIf hoj (hfree j oj hoj hji hjun hnot) (fun cs b => hsel i oi cs b hi) (fun cs b => hsel j oj cs b hoj) hQ hy h1
      have hfree' : ∀ k ok, ops[k]? = some ok → k ≠ i → (listed.setIfInBounds j true).getD k true = false →
          (∀ e ∈ ok.after, Region.binds md e = true → e.on ≠ i) → oi.apart ops ok = true := fun k ok hk hki hun hno => by
        refine hfree k ok hk hki ?_ hno
        by_cases hjk : j = k
        · subst hjk; exact hjun
        · rw [getD_set_ne true hjk] at hun; exact hun
      refine wpOp_mono (fun a' w' h3 => ⟨h3.2.1, ih (listed.setIfInBounds j true) a' w' hfree' (ready_mono hr (Ne.symm hji)) h3.1 ?_⟩) h2
      rw [Array.setIfInBounds_comm _ _ hji]
      exact h3.2.2
def waitAll (md : Region.Mode) (ops : Array Oper) (listed : Array Bool) (i : Nat) (X : List Nat) : Bool := X.all fun x => listed.getD x false || waitsB md ops i ops.size x
theorem takeL {i : Nat} {oi : Oper} {d : Option Tmp} {v : Value} {fuel : Nat} {listed : Array Bool} {a : Act} {w : World} (hi : ops[i]? = some oi) (hd : oi.dst = d)
    (hs : Region.noSelect ops = true) (hf : Region.free md ops listed i = true) (hr : (Region.ready md ops listed).contains i = true) (hc : closedB md ops listed = true) (hX : waitAll md ops listed i X = true)
    (hQ : ∀ c a w, Q (.panic c) (a.put oi.dst v) w → Q (.panic c) a w) (hy : YieldsIf P ops S oi v a) (hS : S w)
    (h : wpAnyL P md ops Q S X fuel (listed.setIfInBounds i true) (a.put d v) w) : wpAnyL P md ops Q S X (fuel + 1) listed a w :=
  wpAnyL_first hi (Region.noSelect_spec hs) hQ fuel listed a w (closedB_spec hc) (fun x hx => by unfold waitAll at hX; rw [List.all_eq_true] at hX; have h9 := hX x (by simpa using hx); simpa using h9) (Region.free_spec hi hf) (by simpa using hr) hy hS (hd ▸ h)
theorem tK {i : Nat} {oi : Oper} {d : Option Tmp} {v : Value} {fuel : Nat} {listed : Array Bool} {a : Act} {w : World} (hi : ops[i]? = some oi) (hd : oi.dst = d)
    (hQ : ∀ c a w, Q (.panic c) (a.put oi.dst v) w → Q (.panic c) a w) (hy : YieldsIf P ops S oi v a) (hS : S w)
    (h : wpAnyL P md ops Q S X fuel (listed.setIfInBounds i true) (a.put d v) w)
    (hs : Region.noSelect ops = true := by kernel_rfl) (hf : Region.free md ops listed i = true := by kernel_rfl) (hr : (Region.ready md ops listed).contains i = true := by kernel_rfl) (hc : closedB md ops listed = true := by kernel_rfl) (hX : waitAll md ops listed i X = true := by kernel_rfl) : wpAnyL P md ops Q S X (fuel + 1) listed a w := takeL hi hd hs hf hr hc hX hQ hy hS h
theorem takeW {i : Nat} {oi : Oper} {d : Option Tmp} {v : Value} {fuel : Nat} {listed : Array Bool} {a : Act} {w : World} (hi : ops[i]? = some oi) (hd : oi.dst = d)
    (hs : Region.noSelect ops = true) (hf : Region.free md ops listed i = true) (hr : (Region.ready md ops listed).contains i = true) (hX : X.contains i = true)
    (hQ : ∀ c a w, Q (.panic c) (a.put oi.dst v) w → Q (.panic c) a w) (hy : YieldsIf P ops (fun _ => True) oi v a)
    (h : wpAnyL P md ops Q S X fuel (listed.setIfInBounds i true) (a.put d v) w) : wpAnyL P md ops Q S X (fuel + 1) listed a w :=
  wpAnyL_firstW hi (Region.noSelect_spec hs) hQ hX fuel listed a w (Region.free_spec hi hf) (by simpa using hr) hy (hd ▸ h)
theorem stepL {i : Nat} {o : Oper} {fuel : Nat} {listed : Array Bool} {a : Act} {w : World} (hr : Region.ready md ops listed = [i]) (ho : ops[i]? = some o)
    (h : ∀ K' : Act → World → Prop, Shut (∀ a w, S w → (S w → wpAnyL P md ops Q S X fuel (listed.setIfInBounds i true) a w) → K' a w) → if Region.wanted o (yielded ops a.tmps) = true then Oper.wp P o a w K' Q else K' (a.put o.dst undef) w) : wpAnyL P md ops Q S X (fuel + 1) listed a w := by
  refine ⟨(fun h0 => by rw [hr] at h0; cases h0), fun j hj => ?_⟩
  rw [hr, List.mem_singleton] at hj
  subst hj
  exact wpOp_step ho (fun K' hK => h K' (fun a w hS hW => hK a w ⟨fun _ => hS, hW hS⟩))
theorem stepL2 {i j : Nat} {o p : Oper} {fuel : Nat} {listed : Array Bool} {a : Act} {w : World} (hr : Region.ready md ops listed = [i, j]) (ho : ops[i]? = some o) (hp : ops[j]? = some p)
    (h : ∀ K' : Act → World → Prop, Shut (∀ a w, S w → (S w → wpAnyL P md ops Q S X fuel (listed.setIfInBounds i true) a w) → K' a w) → if Region.wanted o (yielded ops a.tmps) = true then Oper.wp P o a w K' Q else K' (a.put o.dst undef) w)
    (k : ∀ K' : Act → World → Prop, Shut (∀ a w, S w → (S w → wpAnyL P md ops Q S X fuel (listed.setIfInBounds j true) a w) → K' a w) → if Region.wanted p (yielded ops a.tmps) = true then Oper.wp P p a w K' Q else K' (a.put p.dst undef) w) : wpAnyL P md ops Q S X (fuel + 1) listed a w := by
  refine ⟨(fun h0 => by rw [hr] at h0; cases h0), fun q hq => ?_⟩
  rw [hr] at hq
  rcases List.mem_cons.1 hq with rfl | hq
  · exact wpOp_step ho (fun K' hK => h K' (fun a w hS hW => hK a w ⟨fun _ => hS, hW hS⟩))
  · rw [List.mem_singleton] at hq
    subst hq
    exact wpOp_step hp (fun K' hK => k K' (fun a w hS hW => hK a w ⟨fun _ => hS, hW hS⟩))
theorem lastL {i : Nat} {o : Oper} {fuel : Nat} {listed : Array Bool} {a : Act} {w : World} (hr : Region.ready md ops listed = [i]) (hx : X.contains i = true) (ho : ops[i]? = some o)
    (h : ∀ K' : Act → World → Prop, Shut (∀ a w, wpAnyL P md ops Q S X fuel (listed.setIfInBounds i true) a w → K' a w) → if Region.wanted o (yielded ops a.tmps) = true then Oper.wp P o a w K' Q else K' (a.put o.dst undef) w) : wpAnyL P md ops Q S X (fuel + 1) listed a w := by
  refine ⟨(fun h0 => by rw [hr] at h0; cases h0), fun j hj => ?_⟩
  rw [hr, List.mem_singleton] at hj
  subst hj
  exact wpOp_step ho (fun K' hK => h K' (fun a w hW => hK a w ⟨(fun h0 => by rw [hx] at h0; cases h0), hW⟩))
theorem doneL {listed : Array Bool} {a : Act} {w : World} (hr : Region.ready md ops listed = []) (h : Q .normal a w) :
    ∀ fuel, wpAnyL P md ops Q S X fuel listed a w
  | 0 => ⟨hr, h⟩
  | _ + 1 => ⟨fun _ => h, by rw [hr]; simp⟩
theorem regionL (X : List Nat) {id : Nat} {a : Act} {w : World} (hm : P.follows .mixedOrders = true) (hS : S w.drew)
    (h : S w.drew → wpAnyL P .any ops Q S X ops.size (Array.replicate ops.size false) a w.drew) : (Code.region id ops true).wp P Q a w :=
  wp_region_any hm (wpAny_of_L _ _ _ _ (h hS))
end
end Go.Proofs.YtpaojgfmffkodaaGreat
/- Slices: 'IsRow enc k w A c l': the slice at A (capacity c) reads as the list l, an element x being the k cells 'enc x'. 'Owns ..': the call itself made it. -/
namespace Go.Proofs.YtpaojgfmffkodaaGreat
set_option linter.unusedVariables false
set_option linter.unusedSimpArgs false
open Go.RowKit
structure RowAt {α : Type} (enc : α → List Value) (k : Nat) (w : World) (g off : Nat) (l : List α) : Prop where
  cells : ∀ i (h : i < l.length) j u, (enc l[i])[j]? = some u → w.cell? ⟨g, off + i * k + j, none⟩ = some u
  there : Nonempty (Old w g)
def IsRow {α : Type} (enc : α → List Value) (k : Nat) (w : World) (A : Option Addr) (c : Nat) (l : List α) : Prop :=
  (A = none → c = 0) ∧ (l = [] ∨ ∃ g off, A = some ⟨g, off, none⟩ ∧ RowAt enc k w g off l)
def Owns {α : Type} (enc : α → List Value) (k : Nat) (base : Nat) (e : TypeId) (w : World) (A : Option Addr) (c : Nat) (l : List α) : Prop :=
  w.ownsRow base e k (.slice A l.length c) l.length (l.flatMap enc)
def blockOf (A : Option Addr) : Option Nat := A.map (·.block)
section
variable {α : Type} {enc : α → List Value} {k : Nat} {w w' : World} {g off c : Nat} {A : Option Addr} {l : List α}
theorem RowAt.of (h : RowAt enc k w g off l) (hs : SinceOf w w') : RowAt enc k w' g off l := by
  obtain ⟨z, rfl⟩ := hs
  have := h.there
  exact ⟨fun i hi j u hu => by rw [Since.cell]; exact h.cells i hi j u hu, inferInstance⟩
theorem IsRow.of (h : IsRow enc k w A c l) (hs : SinceOf w w') : IsRow enc k w' A c l := by
  refine ⟨h.1, ?_⟩
  rcases h.2 with h | ⟨g, off, e, h⟩
  · exact .inl h
  · exact .inr ⟨g, off, e, h.of hs⟩
theorem IsRow.since (h : IsRow enc k w A c l) (z : Since w) : IsRow enc k z.wd A c l := h.of ⟨z, rfl⟩
theorem IsRow.later (h : IsRow enc k w A c l) (z : Later w) : IsRow enc k z.wd A c l := h.of ⟨z.since, rfl⟩
theorem IsRow.at_ (h : IsRow enc k w A c l) (hn : 0 < l.length) : ∃ g off, A = some ⟨g, off, none⟩ ∧ RowAt enc k w g off l := by
  rcases h.2 with rfl | h
  · simp at hn
  · exact h
theorem IsRow.nil (enc : α → List Value) (k : Nat) (w : World) : IsRow enc k w none 0 [] := ⟨fun _ => rfl, .inl rfl⟩
theorem flat_length (hk : ∀ x, (enc x).length = k) (l : List α) : (l.flatMap enc).length = l.length * k := by
  induction l with
  | nil => simp
  | cons x l ih => simp [List.flatMap_cons, ih, hk, Nat.add_mul, Nat.add_comm]
theorem flat_get (hk : ∀ x, (enc x).length = k) : ∀ (l : List α) (i : Nat) (h : i < l.length) (j : Nat), j < k → (l.flatMap enc)[i * k + j]? = (enc l[i])[j]?
  | [], i, h, _, _ => by simp at h
  | x :: l, 0, _, j, hj => by
    rw [List.flatMap_cons, Nat.zero_mul, Nat.zero_add, List.getElem?_append_left (by rw [hk]; exact hj)]; rfl
  | x :: l, i + 1, h, j, hj => by
    rw [List.flatMap_cons, List.getElem?_append_right (by rw [hk, Nat.add_mul]; omega), hk, show (i + 1) * k + j - k = i * k + j from by rw [Nat.add_mul]; omega]
    rw [flat_get hk l i (by simpa using h) j hj]; simp
theorem flat_at (hk : ∀ x, (enc x).length = k) (hk0 : 0 < k) (l : List α) (j : Nat) (u : Value) (h : (l.flatMap enc)[j]? = some u) : ∃ (hi : j / k < l.length), (enc l[j / k])[j % k]? = some u := by
  have hj : j < l.length * k := by
    have := (List.getElem?_eq_some_iff.1 h).1
    rwa [flat_length hk] at this
  have hi : j / k < l.length := Nat.div_lt_of_lt_mul (by rw [Nat.mul_comm]; exact hj)
  refine ⟨hi, ?_⟩
  rw [← flat_get hk l (j / k) hi (j % k) (Nat.mod_lt _ hk0), Nat.mul_comm, Nat.div_add_mod, h]
theorem add_none (g off j : Nat) : (⟨g, off, none⟩ : Addr).add j = ⟨g, off + j, none⟩ := by unfold Addr.add; split <;> simp_all
theorem RowAt.news (hk : ∀ x, (enc x).length = k) (hk0 : 0 < k) (h : RowAt enc k w g off l) : ∀ j u, (l.flatMap enc)[j]? = some u → w.cell? ((⟨g, off, none⟩ : Addr).add j) = some u := by
  intro j u hu
  obtain ⟨hi, he⟩ := flat_at hk hk0 l j u hu
  rw [add_none]
  have := h.cells _ hi _ _ he
  rwa [Nat.add_assoc, Nat.mul_comm, Nat.div_add_mod] at this
variable {base : Nat} {e : TypeId}
theorem Owns.nil (enc : α → List Value) (k base : Nat) (e : TypeId) (w : World) : Owns enc k base e w none 0 [] := by simpa [Owns] using World.ownsRow_nil w base e k
theorem Owns.alloc (h : Owns enc k base e w A c l) (o : Obj) : Owns enc k base e (w.alloc o) A c l := World.ownsRow.alloc h o
theorem Owns.kept {row : Option Nat} (h : Owns enc k base e w A c l) (hg : w.grownBy w' row) (hne : blockOf A = none ∨ blockOf A ≠ row) : Owns enc k base e w' A c l := by
  refine World.ownsRow.kept h hg ?_
  cases A with
  | none => exact .inl rfl
  | some a => simpa [blockOf, Value.ownBlock] using hne
theorem Owns.below (h : Owns enc k base e w A c l) : ∀ b, blockOf A = some b → base ≤ b ∧ b < w.heap.size := by
  intro b hb
  refine World.ownsRow.lt h b ?_
  cases A with
  | none => simp [blockOf] at hb
  | some a => simpa [blockOf, Value.ownBlock] using hb
theorem Owns.of (h : Owns enc k base e w A c l) (hs : SinceOf w w') : Owns enc k base e w' A c l := by
  obtain ⟨z, rfl⟩ := hs
  obtain ⟨h1, h2⟩ := h
  refine ⟨h1, ?_⟩
  rcases h2 with h2 | ⟨g, cap, cur, hv, hb, hg, r⟩
  · exact .inl h2
  · refine .inr ⟨g, cap, cur, hv, hb, ?_, r⟩
    rw [z.below.block g ?_]
    · exact hg
    · rcases Nat.lt_or_ge g w.heap.size with hlt | hge
      · exact hlt
      · rw [Array.getElem?_eq_none hge] at hg; cases hg
theorem Owns.base_le {b : Nat} (h : Owns enc k base e w A c l) (hb : b ≤ base) : Owns enc k b e w A c l := by
  obtain ⟨h1, h2⟩ := h
  refine ⟨h1, ?_⟩
  rcases h2 with h2 | ⟨g, cap, cur, hv, hbg, r⟩
  · exact .inl h2
  · exact .inr ⟨g, cap, cur, hv, Nat.le_trans hb hbg, r⟩
theorem Owns.isRow (hk : ∀ x, (enc x).length = k) (h : Owns enc k base e w A c l) : IsRow enc k w A c l := by
  obtain ⟨h1, h2⟩ := h
  rcases h2 with ⟨h2, h3⟩ | ⟨g, cap, cur, hv, hb, hg, hn, hm, hs, ht⟩
  · simp only [Value.slice.injEq] at h2
    exact ⟨fun _ => h2.2.2, .inl (List.eq_nil_of_length_eq_zero h3)⟩
  · simp only [Value.slice.injEq, true_and] at hv
    obtain ⟨rfl, rfl⟩ := hv
    refine ⟨(by intro h; cases h), .inr ⟨g, 0, rfl, ⟨fun i hi j u hu => ?_, ⟨⟨?_⟩⟩⟩⟩⟩
    · have hj : j < k := by
        have := (List.getElem?_eq_some_iff.1 hu).1
        rwa [hk] at this
      have hlt : i * k + j < l.length * k := by
        calc i * k + j < i * k + k := by omega
          _ = (i + 1) * k := by rw [Nat.add_mul]; omega
          _ ≤ l.length * k := Nat.mul_le_mul_right _ hi
      rw [Nat.zero_add, cell_of_row w g (i * k + j) cur e (0, 0) hg]
      have h3 : cur.toList[i * k + j]? = some u := by
        have := flat_get hk l i hi j hj
        rw [hu, ← ht, List.getElem?_take, if_pos hlt] at this
        exact this
      simpa using h3
    · rcases Nat.lt_or_ge g w.heap.size with hlt | hge
      · exact hlt
      · rw [Array.getElem?_eq_none hge] at hg; cases hg
theorem run_append_row {P : Program} (hk : ∀ x, (enc x).length = k) (hk0 : 0 < k) (h1c : ∀ x, ∀ u ∈ enc x, u.oneCell' = true) (t ty : TypeId) (i : TypeInfo) (z : Value) (bytes : Nat) (ht : P.underlying t = some (.slice e)) (hi : P.info? e = some i) (hz : i.zero = some z)
    (hsize : i.size = k) (hby : i.bytes = bytes) (hzs : z.cells.size = k) (hown : Owns enc k base e w A c l) {B : Option Addr} {d : Nat} {m : List α} (hm : IsRow enc k w B d m)
    (h63 : l.length + m.length ≤ maxLen) (hbytes : (l.length + m.length) * bytes ≤ 140737488355328) (hbase : base ≤ w.heap.size) :
    ∃ A' c' w', (Builtin.append_ #[t, t] ty #[.slice A l.length c, .slice B m.length d]).run P w = .ok (.slice A' (l.length + m.length) c') w' ∧ Owns enc k base e w' A' c' (l ++ m) ∧ w.grownBy w' (blockOf A) ∧ (blockOf A' = blockOf A ∨ blockOf A' = some w.heap.size) := by
  have hfl : l.flatMap enc ++ m.flatMap enc = (l ++ m).flatMap enc := by simp
  have hbl : (Value.slice A l.length c).ownBlock = blockOf A := by cases A <;> rfl
  have main : ∀ ad : Addr, B = some ad → (∀ j u, (m.flatMap enc)[j]? = some u → w.cell? (ad.add j) = some u) →
      ∃ A' c' w', (Builtin.append_ #[t, t] ty #[.slice A l.length c, .slice B m.length d]).run P w = .ok (.slice A' (l.length + m.length) c') w' ∧ Owns enc k base e w' A' c' (l ++ m) ∧ w.grownBy w' (blockOf A) ∧ (blockOf A' = blockOf A ∨ blockOf A' = some w.heap.size) := by
    rintro ad rfl hnews
    obtain ⟨v', w', hr, h2, h3, _, h5⟩ := run_append_own_at (P := P) w base t ty e i z k bytes ht hi hz hsize hby hzs hk0 _ _ _ hown ad m.length d (m.flatMap enc) (flat_length hk m) hnews
      (fun u hu => by simp only [List.mem_flatMap] at hu; obtain ⟨x, _, hx⟩ := hu; exact h1c x u hx) h63 hbytes hbase
    have hform : ∃ A' c', v' = .slice A' (l.length + m.length) c' := by
      rcases h2.2 with ⟨rfl, h0⟩ | ⟨g, cap, cur, hv, _⟩
      · exact ⟨none, 0, by rw [h0]⟩
      · exact ⟨_, _, hv⟩
    obtain ⟨A', c', rfl⟩ := hform
    rw [hfl] at h2
    rw [hbl] at h3 h5
    refine ⟨A', c', w', hr, ?_, h3, ?_⟩
    · unfold Owns; rw [List.length_append]; exact h2
    · have : (Value.slice A' (l.length + m.length) c').ownBlock = blockOf A' := by cases A' <;> rfl
      rw [this] at h5
      exact h5
  rcases hm.2 with rfl | ⟨g, off, rfl, hr⟩
  · cases B with
    | none =>
      obtain rfl : d = 0 := hm.1 rfl
      have hrun := run_append_owned_none (P := P) (w := w) base t ty e i k ht hi _ _ _ hown
      exact ⟨A, c, w, hrun, by simpa using hown, ⟨rfl, rfl, rfl, Nat.le_refl _, fun _ _ _ => rfl⟩, .inl rfl⟩
    | some ad => exact main ad rfl (by simp)
  · exact main _ rfl (hr.news hk hk0)
end
section
variable {α : Type} {enc : α → List Value} {k : Nat} {P : Program} {base : Nat} {e : TypeId}
theorem wp_append_row {w : World} {o : Oper} {a : Act} {K : Act → World → Prop} {Q : Exit → Act → World → Prop} (s x : Operand) (t : TypeId)
    (ho : o.op = .call { callee := .builtin .append, args := #[s, x], argTypes := #[t, t] })
    (hk : ∀ x, (enc x).length = k) (hk0 : 0 < k) (h1c : ∀ x, ∀ u ∈ enc x, u.oneCell' = true) (i : TypeInfo) (z : Value) (bytes : Nat) (ht : P.underlying t = some (.slice e)) (hi : P.info? e = some i) (hz : i.zero = some z)
    (hsize : i.size = k) (hby : i.bytes = bytes) (hzs : z.cells.size = k) {A : Option Addr} {c : Nat} {l : List α} (hs : a.eval s = .slice A l.length c) (hown : Owns enc k base e w A c l) {B : Option Addr} {d : Nat} {m : List α} (hx : a.eval x = .slice B m.length d) (hm : IsRow enc k w B d m)
    (h63 : l.length + m.length ≤ maxLen) (hbytes : (l.length + m.length) * bytes ≤ 140737488355328) (hbase : base ≤ w.heap.size)
    (h : ∀ A' c' w', Owns enc k base e w' A' c' (l ++ m) → w.grownBy w' (blockOf A) → (blockOf A' = blockOf A ∨ blockOf A' = some w.heap.size) → K (a.put o.dst (.slice A' (l.length + m.length) c')) w') : o.wp P a w K Q := by
  obtain ⟨A', c', w', hr, h2, h3, h4⟩ := run_append_row (P := P) hk hk0 h1c t o.type i z bytes ht hi hz hsize hby hzs hown hm h63 hbytes hbase
  unfold Oper.wp execOp
  simp only [ho, resolve, invoke, builtin, Sem.run_bind, Sem.run_pure, Result.andThen_ok, List.map_toArray, List.map_cons, List.map_nil, hs, hx, hr]
  exact h A' c' w' h2 h3 h4
theorem wpList_append_row {w : World} {ops : Array Oper} {rest : List Oper} {o : Oper} {a : Act} {Q : Exit → Act → World → Prop} (hgd : o.guard = none) (s x : Operand) (t : TypeId)
    (ho : o.op = .call { callee := .builtin .append, args := #[s, x], argTypes := #[t, t] })
    (hk : ∀ x, (enc x).length = k) (hk0 : 0 < k) (h1c : ∀ x, ∀ u ∈ enc x, u.oneCell' = true) (i : TypeInfo) (z : Value) (bytes : Nat) (ht : P.underlying t = some (.slice e)) (hi : P.info? e = some i) (hz : i.zero = some z)
    (hsize : i.size = k) (hby : i.bytes = bytes) (hzs : z.cells.size = k) {A : Option Addr} {c : Nat} {l : List α} (hs : a.eval s = .slice A l.length c) (hown : Owns enc k base e w A c l) {B : Option Addr} {d : Nat} {m : List α} (hx : a.eval x = .slice B m.length d) (hm : IsRow enc k w B d m)
    (h63 : l.length + m.length ≤ maxLen) (hbytes : (l.length + m.length) * bytes ≤ 140737488355328) (hbase : base ≤ w.heap.size)
    (h : ∀ A' c' w', Owns enc k base e w' A' c' (l ++ m) → w.grownBy w' (blockOf A) → (blockOf A' = blockOf A ∨ blockOf A' = some w.heap.size) → wpList P ops Q rest (a.put o.dst (.slice A' (l.length + m.length) c')) w') : wpList P ops Q (o :: rest) a w :=
  wpList_plain hgd fun _ hK => wp_append_row s x t ho hk hk0 h1c i z bytes ht hi hz hsize hby hzs hs hown hx hm h63 hbytes hbase fun A' c' w' h2 h3 h4 => hK _ _ (h A' c' w' h2 h3 h4)
theorem step_append_row {w : World} {ops : Array Oper} {o : Oper} {a : Act} {K : Act → World → Prop} {Q : Exit → Act → World → Prop} {E : Prop} (hgd : o.guard = none) (s x : Operand) (t : TypeId)
    (ho : o.op = .call { callee := .builtin .append, args := #[s, x], argTypes := #[t, t] })
    (hk : ∀ x, (enc x).length = k) (hk0 : 0 < k) (h1c : ∀ x, ∀ u ∈ enc x, u.oneCell' = true) (i : TypeInfo) (z : Value) (bytes : Nat) (ht : P.underlying t = some (.slice e)) (hi : P.info? e = some i) (hz : i.zero = some z)
    (hsize : i.size = k) (hby : i.bytes = bytes) (hzs : z.cells.size = k) {A : Option Addr} {c : Nat} {l : List α} (hs : a.eval s = .slice A l.length c) (hown : Owns enc k base e w A c l) {B : Option Addr} {d : Nat} {m : List α} (hx : a.eval x = .slice B m.length d) (hm : IsRow enc k w B d m)
    (h63 : l.length + m.length ≤ maxLen) (hbytes : (l.length + m.length) * bytes ≤ 140737488355328) (hbase : base ≤ w.heap.size)
    (h : ∀ A' c' w', Owns enc k base e w' A' c' (l ++ m) → w.grownBy w' (blockOf A) → (blockOf A' = blockOf A ∨ blockOf A' = some w.heap.size) → K (a.put o.dst (.slice A' (l.length + m.length) c')) w') :
    if Region.wanted o (yielded ops a.tmps) = true then Oper.wp P o a w K Q else E := by
  have hw : Region.wanted o (yielded ops a.tmps) = true := by simp [Region.wanted, hgd]
  rw [if_pos hw]
  exact wp_append_row s x t ho hk hk0 h1c i z bytes ht hi hz hsize hby hzs hs hown hx hm h63 hbytes hbase h
end
theorem Sr (w : World) : SinceOf w w := SinceOf.refl w
theorem Sa {w a : World} (h : SinceOf w a) (o : Obj) : SinceOf w (a.alloc o) := h.alloc o
theorem Sd {w a : World} (h : SinceOf w a) : SinceOf w a.drew := h.drew
theorem Sn {w a : World} (h : SinceOf w a) (n : Nat) : SinceOf w (a.drewN n) := h.drewN n
theorem Se {w a : World} (h : SinceOf w a) (y : Later a) : SinceOf w y.wd := h.later y
theorem Sf {w a : World} (h : SinceOf w a) (y : Since a) : SinceOf w y.wd := h.further y
theorem Sc {w a : World} (h : SinceOf w a) {p : Addr} (hp : w.heap.size ≤ p.block) (u : Value) : SinceOf w (a.setCell p u) := h.setCell hp u
theorem Sx {a b : World} (h : SinceOf a b := by (repeat (first | (with_reducible exact SinceOf.refl _) | (with_reducible assumption) | (with_reducible refine SinceOf.alloc ?_ _) | (with_reducible refine SinceOf.drew ?_) | (with_reducible refine SinceOf.drewN ?_ _) | (with_reducible refine SinceOf.later ?_ _) | (with_reducible refine SinceOf.further ?_ _) | (with_reducible refine SinceOf.setCell ?_ (by first | exact Nat.le_refl _ | (simp; done) | omega | (simp; omega)) _)))) : SinceOf a b := h
theorem Lx {a b : World} (h : LaterOf a b := by (repeat (first | (with_reducible exact LaterOf.refl _) | (with_reducible refine LaterOf.alloc ?_ _) | (with_reducible refine LaterOf.drew ?_) | (with_reducible refine LaterOf.drewN ?_ _) | (with_reducible refine LaterOf.later ?_ _) | (with_reducible refine LaterOf.setCell ?_ (by first | exact Nat.le_refl _ | (simp; done) | omega | (simp; omega)) _)))) : LaterOf a b := h
end Go.Proofs.YtpaojgfmffkodaaGreat
