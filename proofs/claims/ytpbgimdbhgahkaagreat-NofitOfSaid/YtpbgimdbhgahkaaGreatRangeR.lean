/- A loop over an iterator that only reads and makes memory, with a body that appends to rows of its own: what the iterator promises, and the loop's rule. -/
import Derived.Test.YtpbgimdbhgahkaaGreatSort
import Derived.RangeFuncNested
import Derived.RangeFuncBound
import Derived.RangeFuncCalls
import Derived.RangeFuncLeaves
import Derived.OrdersIn
import Derived.Deep.RegionHeld3
namespace Go.Proofs.YtpbgimdbhgahkaaGreat
open Go.RowKit
set_option linter.unusedVariables false

/-- What an iterator promises that only reads and makes memory, and yields xs. -/
def SeqG {α : Type} (Kp : World → Prop) (F : Fence) (n : Nat) (P : Program) (g : Nat) (lb : Array Value) (encs : α → Array Value) (xs : List α) (w : World) : Prop :=
  ∀ (l : Nat) (J Jx : List α → World → Prop) (W : World), SinceOf w W → (∀ s A B, J s A → SinceOf A B → J s B) → (∀ s A B, Jx s A → SinceOf A B → Jx s B) → (∀ s A, J s A → Kp A) →
    (∀ pre x post W1, xs = pre ++ x :: post → J pre W1 → YieldAt F (n - 1) P l (encs x) W1 fun e W' =>
      (e = .returned (.bool true) ∧ J (pre ++ [x]) W') ∨ (e = .returned (.bool false) ∧ Jx (pre ++ [x]) W')) →
    J [] W →
    CallsIn F n P g (#[.func (.yield l) #[] #[]] ++ lb) W fun e W' => (∃ v, e = .returned v) ∧ (J xs W' ∨ ∃ pre, Jx pre W')
/-- Blocks D and D + 1 are as they were. -/
structure Spares (D : Nat) (W W' : World) : Prop where
  size : W.heap.size ≤ W'.heap.size
  b0 : W'.heap[D]? = W.heap[D]?
  b1 : W'.heap[D + 1]? = W.heap[D + 1]?
theorem Spares.of_since {D : Nat} {W W' : World} (h : SinceOf W W') (hD : D + 1 < W.heap.size) : Spares D W W' := by
  obtain ⟨z, rfl⟩ := h
  exact ⟨z.size, z.below.block D (by omega), z.below.block (D + 1) hD⟩
theorem Spares.trans {D : Nat} {X Y Z : World} (h : Spares D X Y) (k : Spares D Y Z) : Spares D X Z := ⟨Nat.le_trans h.size k.size, k.b0.trans h.b0, k.b1.trans h.b1⟩
theorem grown_putObj {l : Nat} (W : World) (o : Obj) : W.grownBy (W.putObj l o) (some l) := grownBy_putObj' W l o
/-- How a round's body may be left. -/
def postG {α : Type} (D : Nat) (I : List α → World → Prop) (Ix : Code → List α → World → Prop) (xs : List α) (W : World) : Exit → Act → World → Prop
  | .normal, _, W' => Spares D W W' ∧ I xs W'
  | .ret, _, W' => Spares D W W' ∧ Ix .ret xs W'
  | .exit id, _, W' => Spares D W W' ∧ Ix (.exit id) xs W'
  | .goto t, _, W' => Spares D W W' ∧ Ix (.goto t) xs W'
  | .panic _, _, _ => False
  | .outgrown, _, _ => False

section
variable {F : Fence} {n : Nat} {P : Program}
theorem wpIn_rangeFunc_grown {α : Type} {g : Operand} {ps : Array Tmp} {assign body : Code} {Q : Exit → Act → World → Prop} {a : Act} {w : World}
    (hro : F.round = none) (h1 : 1 ≤ n) {gf : Nat} {lb : Array Value} (hg : a.eval g = .func (.func gf) #[] lb) (hFg : F.fn gf) (eg : ∀ args w, (callFunc gf args).run P w = .ok (.enter gf args) w)
    {Kp : World → Prop} {encs : α → Array Value} {xs : List α} (hseq : SeqG Kp F (n - 1) P gf lb encs xs w) (hps : ∀ x, (encs x).size = ps.size)
    (I : List α → World → Prop) (Ix : Code → List α → World → Prop) (hI : ∀ s A B, I s A → A.grownBy B (some (w.heap.size + 1)) → I s B) (hIx : ∀ c s A B, Ix c s A → A.grownBy B (some (w.heap.size + 1)) → Ix c s B) (hK : ∀ s A, I s A → Kp A) (h0 : I [] w)
    (hround : ∀ (l : Nat) (pre : List α) (x : α) (post : List α) (W : World), xs = pre ++ x :: post → w.heap.size + 2 ≤ W.heap.size → I pre W → ∃ (a₁ : Act) (V : World), SinceOf W V ∧
      (∀ K : Act → World → Prop, K a₁ V → assign.wpIn (F.inRound l) (n - 1 - 1) P (Exit.then K (fun _ _ _ => False)) { tmps := (ps.zip (encs x)).foldl (fun t (p, v) => t.setIfInBounds p v) a.tmps, defers := [] } W) ∧
      (∀ W2 : World, V.grownBy W2 (some (w.heap.size + 1)) → w.heap.size + 2 ≤ W2.heap.size → I pre W2 → body.wpIn (F.inRound l) (n - 1 - 1) P (postG w.heap.size I Ix (pre ++ [x]) W2) a₁ W2))
    (hdone : ∀ (D : Nat) (W : World), w.heap.size ≤ D → I xs W → W.heap[D]? = some (.deferred (some [])) → Q .normal { a with defers := { target := .collected D, args := #[] } :: a.defers } W)
    (hstop : ∀ (D : Nat) (c : Code) (pre : List α) (W : World), w.heap.size ≤ D → Ix c pre W → W.heap[D]? = some (.deferred (some [])) → c.wpIn F n P Q { a with defers := { target := .collected D, args := #[] } :: a.defers } W) :
    (Code.rangeFunc g ps assign body).wpIn F n P Q a w := by
  refine wpIn_rangeFunc ?_
  intro fn hfn
  rw [hro]
  obtain ⟨rec, hrec⟩ : ∃ rec : LoopState → Option Code → Loop, rec = fun st pe => { state := st, pending := pe, fn, tmps := a.tmps, params := ps, assign, body, defers := w.heap.size } := ⟨_, rfl⟩
  obtain ⟨W1, hW1⟩ : ∃ W1, (w.alloc (.deferred (some []))).alloc (.loop (rec .ready none)) = W1 := ⟨_, rfl⟩
  have hz1 : W1.heap.size = w.heap.size + 2 := by rw [← hW1]; simp
  have hL1 : W1.heap[w.heap.size + 1]? = some (.loop (rec .ready none)) := by
    rw [← hW1]; have := World.alloc_heap_new (w.alloc (.deferred (some []))) (.loop (rec .ready none)); rwa [World.size_alloc] at this
  have hK1 : W1.heap[w.heap.size]? = some (.deferred (some [])) := by
    rw [← hW1]; exact (Below.heap_alloc _ _ _ (by simp)).trans (World.alloc_heap_new w _)
  have hb1 : SinceOf w W1 := by rw [← hW1]; exact ((SinceOf.refl w).alloc _).alloc _
  have sg : ∀ {A B : World}, SinceOf A B → A.grownBy B (some (w.heap.size + 1)) := fun h => by
    obtain ⟨z, rfl⟩ := h; exact Since.grownBy z _
  have hI1 : I [] W1 := hI _ _ _ h0 (sg hb1)
  refine ⟨w.heap.size + 1, [{ target := .collected w.heap.size, args := #[] }], W1, { target := .fn (.func gf) lb, args := #[.func (.yield (w.heap.size + 1)) #[] #[]] }, W1, gf,
    #[.func (.yield (w.heap.size + 1)) #[] #[]] ++ lb, W1, ?_, ?_, ?_, ?_, fun _ => h1, ?_⟩
  · rw [← hW1, hrec]; exact run_enterLoop_outer _ _ _ _ _
  · simp only [resolve, hg]
    simp [go_sem]
  · intro f' hf'; simp [Target.leads] at hf'; subst hf'; exact hFg
  · simp [invoke, go_sem, eg]
  · have low : ∀ (A B : World), SinceOf A B → ∀ (o : Obj) (k : Nat), A.heap[k]? = some o → B.heap[k]? = some o := fun A B h o k hk => by
      obtain ⟨z, rfl⟩ := h
      exact (z.below.block k (Array.getElem?_eq_some_iff.1 hk).1).trans hk
    refine (hseq (w.heap.size + 1)
      (fun pre W => I pre W ∧ W.heap[w.heap.size + 1]? = some (.loop (rec .ready none)) ∧ W.heap[w.heap.size]? = some (.deferred (some [])))
      (fun pre W => ∃ c, Ix c pre W ∧ W.heap[w.heap.size + 1]? = some (.loop (rec .done (some c))) ∧ W.heap[w.heap.size]? = some (.deferred (some [])))
      W1 hb1
      (fun s A B hs hab => ⟨hI s A B hs.1 (sg hab), low _ _ hab _ _ hs.2.1, low _ _ hab _ _ hs.2.2⟩)
      (fun s A B hs hab => by
        obtain ⟨c, hc, hl, hk⟩ := hs
        exact ⟨c, hIx c s A B hc (sg hab), low _ _ hab _ _ hl, low _ _ hab _ _ hk⟩)
      (fun s A hs => hK s A hs.1)
      ?_ ⟨hI1, hL1, hK1⟩).mono ?_
    · rintro pre x post W hxs ⟨hi, hl, hk⟩
      have hlt : w.heap.size + 1 < W.heap.size := (Array.getElem?_eq_some_iff.1 hl).1
      have hy := run_yield (P := P) (args := encs x) hl (by rw [hrec]; exact hps x)
      rw [hrec] at hy
      obtain ⟨a₁, V, hWV, hass, hbod⟩ := hround (w.heap.size + 1) pre x post W hxs (by omega) hi
      have hlV := low _ _ hWV _ _ hl
      have hkV := low _ _ hWV _ _ hk
      have hiV : I pre V := hI _ _ _ hi (sg hWV)
      have hltV : w.heap.size + 1 < V.heap.size := (Array.getElem?_eq_some_iff.1 hlV).1
      refine ⟨fn, _, assign, body, hy, roundIn_of_wpIn hfn (hass _ ⟨_, run_beginRound hlV (by rw [hrec]), ?_⟩)⟩
      obtain ⟨W2, hW2⟩ : ∃ W2, V.putObj (w.heap.size + 1) (.loop { rec .ready none with state := .busy }) = W2 := ⟨_, rfl⟩
      have hl2 : W2.heap[w.heap.size + 1]? = some (.loop { rec .ready none with state := .busy }) := by rw [← hW2]; exact World.putObj_heap_same hltV
      have hk2 : W2.heap[w.heap.size]? = some (.deferred (some [])) := by rw [← hW2]; exact (World.putObj_heap_other (by omega)).trans hkV
      have hz2 : W2.heap.size = V.heap.size := by rw [← hW2]; simp
      have hi2 : I pre W2 := by rw [← hW2]; exact hI _ _ _ hiV (grown_putObj V _)
      have hbd := hbod W2 (by rw [← hW2]; exact grown_putObj V _) (by omega) hi2
      have hbd' := hbd
      rw [← hW2] at hbd'
      refine wpIn_mono hbd' ?_
      have fin : ∀ (jump : Option Code) (W3 : World), Spares w.heap.size W2 W3 → ∃ W4,
          (Instr.endRound (w.heap.size + 1) jump).run P W3 = .ok (.bool jump.isNone) W4 ∧ W3.grownBy W4 (some (w.heap.size + 1)) ∧
          W4.heap[w.heap.size + 1]? = some (.loop (rec (if jump.isNone then .ready else .done) jump)) ∧ W4.heap[w.heap.size]? = some (.deferred (some [])) := fun jump W3 ha => by
        have hl3 := ha.b1.trans hl2
        have hz3 := ha.size
        have := run_endRound (P := P) jump hl3
        rw [hrec] at this ⊢
        exact ⟨_, this, grown_putObj W3 _, World.putObj_heap_same (by omega), (World.putObj_heap_other (by omega)).trans (ha.b0.trans hk2)⟩
      rintro e a3 W3 hp
      cases e with
      | normal =>
        obtain ⟨ha3, hi3⟩ := hp
        obtain ⟨W4, hr, hb, hl4, hk4⟩ := fin none W3 (by rw [← hW2]; exact ha3)
        exact ⟨_, _, hr, .inl ⟨rfl, hI _ _ _ hi3 hb, hl4, hk4⟩⟩
      | ret =>
        obtain ⟨ha3, hi3⟩ := hp
        obtain ⟨W4, hr, hb, hl4, hk4⟩ := fin (some .ret) W3 (by rw [← hW2]; exact ha3)
        exact ⟨_, _, hr, .inr ⟨rfl, .ret, hIx _ _ _ _ hi3 hb, hl4, hk4⟩⟩
      | exit id =>
        obtain ⟨ha3, hi3⟩ := hp
        obtain ⟨W4, hr, hb, hl4, hk4⟩ := fin (some (.exit id)) W3 (by rw [← hW2]; exact ha3)
        exact ⟨_, _, hr, .inr ⟨rfl, .exit id, hIx _ _ _ _ hi3 hb, hl4, hk4⟩⟩
      | goto t =>
        obtain ⟨ha3, hi3⟩ := hp
        obtain ⟨W4, hr, hb, hl4, hk4⟩ := fin (some (.goto t)) W3 (by rw [← hW2]; exact ha3)
        exact ⟨_, _, hr, .inr ⟨rfl, .goto t, hIx _ _ _ _ hi3 hb, hl4, hk4⟩⟩
      | panic ch => exact hp.elim
      | outgrown => exact hp.elim
    · rintro e W2 ⟨⟨v, rfl⟩, (⟨hi, hl, hk⟩ | ⟨pre, c, hi, hl, hk⟩)⟩
      · have hlt := (Array.getElem?_eq_some_iff.1 hl).1
        exact ⟨none, _, by have := run_endLoop (P := P) hl (by rw [hrec]; simp); rw [hrec] at this; exact this, hdone _ _ (Nat.le_refl _) (hI _ _ _ hi (grown_putObj W2 _)) ((World.putObj_heap_other (by omega)).trans hk)⟩
      · have hlt := (Array.getElem?_eq_some_iff.1 hl).1
        exact ⟨some c, _, by have := run_endLoop (P := P) hl (by rw [hrec]; simp); rw [hrec] at this; exact this, hstop _ c pre _ (Nat.le_refl _) (hIx c _ _ _ hi (grown_putObj W2 _)) ((World.putObj_heap_other (by omega)).trans hk)⟩
end

section
variable {P : Program} {ops : Array Oper} {Q : Exit → Act → World → Prop} {md : Region.Mode} {S : World → Prop} {n l : Nat}
def noDefer (ops : Array Oper) : Bool := ops.all fun o => match o.op with | .defer _ => false | _ => true
theorem noDefer_at (h : noDefer ops = true) {i : Nat} {o : Oper} (hi : ops[i]? = some o) (c : Call) : o.op ≠ .defer c := by
  intro e
  unfold noDefer at h
  rw [Array.all_eq_true] at h
  obtain ⟨hlt, he⟩ := Array.getElem?_eq_some_iff.1 hi
  have := h i hlt
  rw [he, e] at this
  cases this
theorem op_in_round {o : Oper} (hnd : ∀ c, o.op ≠ .defer c) {K : Act → World → Prop} {a : Act} {w : World} (h : Oper.wp P o a w K Q) : Oper.wpIn (Fence.wide.inRound l) n P o a w K Q := by
  refine ⟨fun _ _ => trivial, ?_⟩
  rw [show o.semAt (Fence.wide.inRound l).round a.eval = execOp a.eval o from Oper.semAt_eq _ _ _ hnd]
  unfold Oper.wp at h
  generalize (execOp a.eval o).run P w = r at *
  cases r with
  | ok x w' =>
    cases x <;> simp only [Oper.upon] at h <;> simp only [Oper.uponIn]
    case value => exact h
    case skip => exact h
    case defer => exact h
    case enter f args => exact ⟨fun h => by simp [Fence.wide, Fence.inRound] at h, CallsIn.inRound l (callsIn_wide.2 h)⟩
    case row row args =>
      refine ⟨fun h => by simp [Fence.wide, Fence.inRound] at h, fun c cs _ => ?_⟩
      obtain ⟨v, w2, hR, hs⟩ := h c cs
      exact ⟨v, w2, hR, stepsIn_wide.2 hs⟩
  | halt x w' =>
    cases x <;> simp only [Oper.upon] at h <;> simp only [Oper.uponIn]
    exact h
theorem any_in_round (hnd : noDefer ops = true) (hno : ¬ LetsOut Q) : ∀ (fuel : Nat) (listed : Array Bool) (a : Act) (w : World), wpAny P md ops Q fuel listed a w → wpAnyIn (Fence.wide.inRound l) n P md ops Q fuel listed a w
  | 0, _, _, _, h => h
  | fuel + 1, listed, a, w, h => by
    refine ⟨h.1, fun i hi => ?_⟩
    have h2 := h.2 i hi
    unfold wpOp at h2
    unfold wpOpIn
    cases ho : ops[i]? with
    | none =>
      simp only [ho] at h2
      exact any_in_round hnd hno fuel _ _ _ h2
    | some o =>
      simp only [ho] at h2
      by_cases hw : Region.wanted o (yielded ops a.tmps) = true
      · simp only [hw, if_true] at h2 ⊢
        rcases h2 with h2 | h2
        · exact Oper.wpIn_mono (fun a w h => any_in_round hnd hno fuel _ a w h) (op_in_round (noDefer_at hnd ho) h2)
        · exact absurd h2.2 hno
      · simp only [hw] at h2 ⊢
        exact ⟨fun _ _ => trivial, any_in_round hnd hno fuel _ _ _ h2⟩
/-- Q, but no panic and no outgrown end. -/
def Calm (Q : Exit → Act → World → Prop) : Exit → Act → World → Prop
  | .panic _, _, _ => False
  | .outgrown, _, _ => False
  | e, a, w => Q e a w
theorem Calm.imp {Q : Exit → Act → World → Prop} : ∀ (e : Exit) (a : Act) (w : World), Calm Q e a w → Q e a w := fun e a w h => by
  cases e <;> first | exact h | exact (h : False).elim
theorem take_at {i : Nat} {oi : Oper} {d : Option Tmp} {v : Value} {fuel : Nat} {listed : Array Bool} {a : Act} {w : World} (hi : ops[i]? = some oi) (hd : oi.dst = d)
    (hs : Region.noSelect ops = true) (hf : Region.free md ops listed i = true) (hr : (Region.ready md ops listed).contains i = true)
    (hQ : ∀ c a w, Q (.panic c) (a.put oi.dst v) w → Q (.panic c) a w) (hy : YieldsIf P ops S oi v a) (hS : S w)
    (h : wpAnyH P md ops Q S fuel (listed.setIfInBounds i true) (a.put d v) w) : wpAnyH P md ops Q S (fuel + 1) listed a w :=
  wpAnyH_take hi hs hf hr hQ hy hS (hd ▸ h)
theorem step_at {i : Nat} {o : Oper} {fuel : Nat} {listed : Array Bool} {a : Act} {w : World} (hr : Region.ready md ops listed = [i]) (ho : ops[i]? = some o)
    (h : ∀ K' : Act → World → Prop, Shut (∀ a w, S w → (S w → wpAnyH P md ops Q S fuel (listed.setIfInBounds i true) a w) → K' a w) → if Region.wanted o (yielded ops a.tmps) = true then Oper.wp P o a w K' Q else K' (a.put o.dst undef) w) : wpAnyH P md ops Q S (fuel + 1) listed a w :=
  wpAnyH_ready hr (by simp) (AllReadyH.cons ho h AllReadyH.nil)
theorem Calm.normal {Q : Exit → Act → World → Prop} {a : Act} {w : World} (h : Q .normal a w) : Calm Q .normal a w := h
theorem region_in_round {id : Nat} {a : Act} {w : World} (hm : P.follows .mixedOrders = true) (hnd : noDefer ops = true) (hS : S w.drew)
    (h : S w.drew → wpAnyH P .any ops (Calm Q) S ops.size (Array.replicate ops.size false) a w.drew) : (Code.region id ops true).wpIn (Fence.wide.inRound l) n P Q a w :=
  Code.wpIn_mono Calm.imp (wpIn_region_any hm (any_in_round hnd (fun ⟨_, _, h⟩ => h) _ _ _ _ (wpAny_of_held _ _ _ _ (h hS))))
end
end Go.Proofs.YtpbgimdbhgahkaaGreat
/- A loop over an iterator that reads variables of its own behind a yield, with a body that appends to rows of its own: Pk W k: block k of W is the iterator's, the body leaves it. -/
namespace Go.Proofs.YtpbgimdbhgahkaaGreat
open Go.RowKit
set_option linter.unusedVariables false

/-- What an iterator promises that only reads and makes memory, keeps variables of its own, and yields xs. -/
def SeqP {α : Type} (Kp : World → Prop) (F : Fence) (n : Nat) (P : Program) (g : Nat) (lb : Array Value) (encs : α → Array Value) (xs : List α) (w : World) : Prop :=
  ∀ (l : Nat) (J Jx : List α → World → Prop) (Pk : World → Nat → Prop) (W : World), SinceOf w W → (∀ s A B, J s A → SinceOf A B → J s B) → (∀ s A B, Jx s A → SinceOf A B → Jx s B) → (∀ s A, J s A → Kp A) →
    (∀ s A o, J s A → Pk (A.alloc o) A.heap.size) → (∀ A B k, Pk A k → SinceOf A B → Pk B k) →
    (∀ pre x post W1, xs = pre ++ x :: post → J pre W1 → YieldAt F (n - 1) P l (encs x) W1 fun e W' =>
      (e = .returned (.bool true) ∧ J (pre ++ [x]) W' ∧ ∀ k, Pk W1 k → W'.heap[k]? = W1.heap[k]? ∧ Pk W' k) ∨ (e = .returned (.bool false) ∧ Jx (pre ++ [x]) W')) →
    J [] W →
    CallsIn F n P g (#[.func (.yield l) #[] #[]] ++ lb) W fun e W' => (∃ v, e = .returned v) ∧ (J xs W' ∨ ∃ pre, Jx pre W')
/-- How a round's body may be left. -/
def postP {α : Type} (D : Nat) (Pk : World → Nat → Prop) (I : List α → World → Prop) (Ix : Code → List α → World → Prop) (xs : List α) (W : World) : Exit → Act → World → Prop
  | .normal, _, W' => Spares D W W' ∧ I xs W' ∧ ∀ k, Pk W k → W'.heap[k]? = W.heap[k]? ∧ Pk W' k
  | .ret, _, W' => Spares D W W' ∧ Ix .ret xs W'
  | .exit id, _, W' => Spares D W W' ∧ Ix (.exit id) xs W'
  | .goto t, _, W' => Spares D W W' ∧ Ix (.goto t) xs W'
  | .panic _, _, _ => False
  | .outgrown, _, _ => False

section
variable {F : Fence} {n : Nat} {P : Program}
theorem wpIn_rangeFunc_kept {α : Type} {g : Operand} {ps : Array Tmp} {assign body : Code} {Q : Exit → Act → World → Prop} {a : Act} {w : World}
    (hro : F.round = none) (h1 : 1 ≤ n) {gf : Nat} {lb : Array Value} (hg : a.eval g = .func (.func gf) #[] lb) (hFg : F.fn gf) (eg : ∀ args w, (callFunc gf args).run P w = .ok (.enter gf args) w)
    {Kp : World → Prop} {encs : α → Array Value} {xs : List α} (hseq : SeqP Kp F (n - 1) P gf lb encs xs w) (hps : ∀ x, (encs x).size = ps.size)
    (Pk : World → Nat → Prop) (hPl : ∀ A k, Pk A k → k ≠ w.heap.size + 1 ∧ k < A.heap.size) (hPg : ∀ A B k, Pk A k → A.grownBy B (some (w.heap.size + 1)) → Pk B k)
    (I : List α → World → Prop) (hP0 : ∀ s A o, w.heap.size + 2 ≤ A.heap.size → I s A → Pk (A.alloc o) A.heap.size) (Ix : Code → List α → World → Prop) (hI : ∀ s A B, I s A → A.grownBy B (some (w.heap.size + 1)) → I s B) (hIx : ∀ c s A B, Ix c s A → A.grownBy B (some (w.heap.size + 1)) → Ix c s B) (hK : ∀ s A, I s A → Kp A) (h0 : I [] w)
    (hround : ∀ (l : Nat) (pre : List α) (x : α) (post : List α) (W : World), xs = pre ++ x :: post → w.heap.size + 2 ≤ W.heap.size → I pre W → ∃ (a₁ : Act) (V : World), SinceOf W V ∧
      (∀ K : Act → World → Prop, K a₁ V → assign.wpIn (F.inRound l) (n - 1 - 1) P (Exit.then K (fun _ _ _ => False)) { tmps := (ps.zip (encs x)).foldl (fun t (p, v) => t.setIfInBounds p v) a.tmps, defers := [] } W) ∧
      (∀ W2 : World, V.grownBy W2 (some (w.heap.size + 1)) → w.heap.size + 2 ≤ W2.heap.size → I pre W2 → body.wpIn (F.inRound l) (n - 1 - 1) P (postP w.heap.size Pk I Ix (pre ++ [x]) W2) a₁ W2))
    (hdone : ∀ (D : Nat) (W : World), w.heap.size ≤ D → I xs W → W.heap[D]? = some (.deferred (some [])) → Q .normal { a with defers := { target := .collected D, args := #[] } :: a.defers } W)
    (hstop : ∀ (D : Nat) (c : Code) (pre : List α) (W : World), w.heap.size ≤ D → Ix c pre W → W.heap[D]? = some (.deferred (some [])) → c.wpIn F n P Q { a with defers := { target := .collected D, args := #[] } :: a.defers } W) :
    (Code.rangeFunc g ps assign body).wpIn F n P Q a w := by
  refine wpIn_rangeFunc ?_
  intro fn hfn
  rw [hro]
  obtain ⟨rec, hrec⟩ : ∃ rec : LoopState → Option Code → Loop, rec = fun st pe => { state := st, pending := pe, fn, tmps := a.tmps, params := ps, assign, body, defers := w.heap.size } := ⟨_, rfl⟩
  obtain ⟨W1, hW1⟩ : ∃ W1, (w.alloc (.deferred (some []))).alloc (.loop (rec .ready none)) = W1 := ⟨_, rfl⟩
  have hz1 : W1.heap.size = w.heap.size + 2 := by rw [← hW1]; simp
  have hL1 : W1.heap[w.heap.size + 1]? = some (.loop (rec .ready none)) := by
    rw [← hW1]; have := World.alloc_heap_new (w.alloc (.deferred (some []))) (.loop (rec .ready none)); rwa [World.size_alloc] at this
  have hK1 : W1.heap[w.heap.size]? = some (.deferred (some [])) := by
    rw [← hW1]; exact (Below.heap_alloc _ _ _ (by simp)).trans (World.alloc_heap_new w _)
  have hb1 : SinceOf w W1 := by rw [← hW1]; exact ((SinceOf.refl w).alloc _).alloc _
  have sg : ∀ {A B : World}, SinceOf A B → A.grownBy B (some (w.heap.size + 1)) := fun h => by
    obtain ⟨z, rfl⟩ := h; exact Since.grownBy z _
  have hI1 : I [] W1 := hI _ _ _ h0 (sg hb1)
  refine ⟨w.heap.size + 1, [{ target := .collected w.heap.size, args := #[] }], W1, { target := .fn (.func gf) lb, args := #[.func (.yield (w.heap.size + 1)) #[] #[]] }, W1, gf,
    #[.func (.yield (w.heap.size + 1)) #[] #[]] ++ lb, W1, ?_, ?_, ?_, ?_, fun _ => h1, ?_⟩
  · rw [← hW1, hrec]; exact run_enterLoop_outer _ _ _ _ _
  · simp only [resolve, hg]
    simp [go_sem]
  · intro f' hf'; simp [Target.leads] at hf'; subst hf'; exact hFg
  · simp [invoke, go_sem, eg]
  · have low : ∀ (A B : World), SinceOf A B → ∀ (o : Obj) (k : Nat), A.heap[k]? = some o → B.heap[k]? = some o := fun A B h o k hk => by
      obtain ⟨z, rfl⟩ := h
      exact (z.below.block k (Array.getElem?_eq_some_iff.1 hk).1).trans hk
    refine (hseq (w.heap.size + 1)
      (fun pre W => I pre W ∧ W.heap[w.heap.size + 1]? = some (.loop (rec .ready none)) ∧ W.heap[w.heap.size]? = some (.deferred (some [])))
      (fun pre W => ∃ c, Ix c pre W ∧ W.heap[w.heap.size + 1]? = some (.loop (rec .done (some c))) ∧ W.heap[w.heap.size]? = some (.deferred (some [])))
      Pk W1 hb1
      (fun s A B hs hab => ⟨hI s A B hs.1 (sg hab), low _ _ hab _ _ hs.2.1, low _ _ hab _ _ hs.2.2⟩)
      (fun s A B hs hab => by
        obtain ⟨c, hc, hl, hk⟩ := hs
        exact ⟨c, hIx c s A B hc (sg hab), low _ _ hab _ _ hl, low _ _ hab _ _ hk⟩)
      (fun s A hs => hK s A hs.1)
      (fun s A o hs => hP0 s A o (by have := (Array.getElem?_eq_some_iff.1 hs.2.1).1; omega) hs.1) (fun A B k hk hab => hPg A B k hk (sg hab))
      ?_ ⟨hI1, hL1, hK1⟩).mono ?_
    · rintro pre x post W hxs ⟨hi, hl, hk⟩
      have hlt : w.heap.size + 1 < W.heap.size := (Array.getElem?_eq_some_iff.1 hl).1
      have hy := run_yield (P := P) (args := encs x) hl (by rw [hrec]; exact hps x)
      rw [hrec] at hy
      obtain ⟨a₁, V, hWV, hass, hbod⟩ := hround (w.heap.size + 1) pre x post W hxs (by omega) hi
      have hlV := low _ _ hWV _ _ hl
      have hkV := low _ _ hWV _ _ hk
      have hiV : I pre V := hI _ _ _ hi (sg hWV)
      have keepV : ∀ k, Pk W k → V.heap[k]? = W.heap[k]? ∧ Pk V k := fun k hk => by
        obtain ⟨h1, h2⟩ := hPl _ _ hk
        exact ⟨(sg hWV).block k h2 (fun e => by injection e with e; omega), hPg _ _ _ hk (sg hWV)⟩
      have hltV : w.heap.size + 1 < V.heap.size := (Array.getElem?_eq_some_iff.1 hlV).1
      refine ⟨fn, _, assign, body, hy, roundIn_of_wpIn hfn (hass _ ⟨_, run_beginRound hlV (by rw [hrec]), ?_⟩)⟩
      obtain ⟨W2, hW2⟩ : ∃ W2, V.putObj (w.heap.size + 1) (.loop { rec .ready none with state := .busy }) = W2 := ⟨_, rfl⟩
      have hl2 : W2.heap[w.heap.size + 1]? = some (.loop { rec .ready none with state := .busy }) := by rw [← hW2]; exact World.putObj_heap_same hltV
      have hk2 : W2.heap[w.heap.size]? = some (.deferred (some [])) := by rw [← hW2]; exact (World.putObj_heap_other (by omega)).trans hkV
      have hz2 : W2.heap.size = V.heap.size := by rw [← hW2]; simp
      have keep2 : ∀ k, Pk V k → W2.heap[k]? = V.heap[k]? ∧ Pk W2 k := fun k hk => by
        obtain ⟨h1, h2⟩ := hPl _ _ hk
        have hg2 : V.grownBy W2 (some (w.heap.size + 1)) := by rw [← hW2]; exact grown_putObj V _
        exact ⟨hg2.block k h2 (fun e => by injection e with e; omega), hPg _ _ _ hk hg2⟩
      have hi2 : I pre W2 := by rw [← hW2]; exact hI _ _ _ hiV (grown_putObj V _)
      have hbd := hbod W2 (by rw [← hW2]; exact grown_putObj V _) (by omega) hi2
      have hbd' := hbd
      rw [← hW2] at hbd'
      refine wpIn_mono hbd' ?_
      have fin : ∀ (jump : Option Code) (W3 : World), Spares w.heap.size W2 W3 → ∃ W4,
          (Instr.endRound (w.heap.size + 1) jump).run P W3 = .ok (.bool jump.isNone) W4 ∧ W3.grownBy W4 (some (w.heap.size + 1)) ∧
          W4.heap[w.heap.size + 1]? = some (.loop (rec (if jump.isNone then .ready else .done) jump)) ∧ W4.heap[w.heap.size]? = some (.deferred (some [])) := fun jump W3 ha => by
        have hl3 := ha.b1.trans hl2
        have hz3 := ha.size
        have := run_endRound (P := P) jump hl3
        rw [hrec] at this ⊢
        exact ⟨_, this, grown_putObj W3 _, World.putObj_heap_same (by omega), (World.putObj_heap_other (by omega)).trans (ha.b0.trans hk2)⟩
      rintro e a3 W3 hp
      cases e with
      | normal =>
        obtain ⟨ha3, hi3, hkp⟩ := hp
        rw [hW2] at hkp
        obtain ⟨W4, hr, hb, hl4, hk4⟩ := fin none W3 (by rw [← hW2]; exact ha3)
        refine ⟨_, _, hr, .inl ⟨rfl, ⟨hI _ _ _ hi3 hb, hl4, hk4⟩, fun k hk => ?_⟩⟩
        obtain ⟨a1, p1⟩ := keepV k hk
        obtain ⟨a2, p2⟩ := keep2 k p1
        obtain ⟨a3', p3⟩ := hkp k p2
        obtain ⟨h1, h2⟩ := hPl _ _ p3
        exact ⟨((hb.block k h2 (fun e => by injection e with e; omega)).trans a3').trans (a2.trans a1), hPg _ _ _ p3 hb⟩
      | ret =>
        obtain ⟨ha3, hi3⟩ := hp
        obtain ⟨W4, hr, hb, hl4, hk4⟩ := fin (some .ret) W3 (by rw [← hW2]; exact ha3)
        exact ⟨_, _, hr, .inr ⟨rfl, .ret, hIx _ _ _ _ hi3 hb, hl4, hk4⟩⟩
      | exit id =>
        obtain ⟨ha3, hi3⟩ := hp
        obtain ⟨W4, hr, hb, hl4, hk4⟩ := fin (some (.exit id)) W3 (by rw [← hW2]; exact ha3)
        exact ⟨_, _, hr, .inr ⟨rfl, .exit id, hIx _ _ _ _ hi3 hb, hl4, hk4⟩⟩
      | goto t =>
        obtain ⟨ha3, hi3⟩ := hp
        obtain ⟨W4, hr, hb, hl4, hk4⟩ := fin (some (.goto t)) W3 (by rw [← hW2]; exact ha3)
        exact ⟨_, _, hr, .inr ⟨rfl, .goto t, hIx _ _ _ _ hi3 hb, hl4, hk4⟩⟩
      | panic ch => exact hp.elim
      | outgrown => exact hp.elim
    · rintro e W2 ⟨⟨v, rfl⟩, (⟨hi, hl, hk⟩ | ⟨pre, c, hi, hl, hk⟩)⟩
      · have hlt := (Array.getElem?_eq_some_iff.1 hl).1
        exact ⟨none, _, by have := run_endLoop (P := P) hl (by rw [hrec]; simp); rw [hrec] at this; exact this, hdone _ _ (Nat.le_refl _) (hI _ _ _ hi (grown_putObj W2 _)) ((World.putObj_heap_other (by omega)).trans hk)⟩
      · have hlt := (Array.getElem?_eq_some_iff.1 hl).1
        exact ⟨some c, _, by have := run_endLoop (P := P) hl (by rw [hrec]; simp); rw [hrec] at this; exact this, hstop _ c pre _ (Nat.le_refl _) (hIx c _ _ _ hi (grown_putObj W2 _)) ((World.putObj_heap_other (by omega)).trans hk)⟩
end

end Go.Proofs.YtpbgimdbhgahkaaGreat
/- A loop over an iterator whose yielded values stand in the world of the call (a slice just made): the relation in place of the encoding. -/
namespace Go.Proofs.YtpbgimdbhgahkaaGreat
open Go.RowKit
set_option linter.unusedVariables false

/-- What an iterator promises that only reads and makes memory, and yields xs, each as Enc says. -/
def SeqR {α : Type} (Kp : World → Prop) (F : Fence) (n : Nat) (P : Program) (g : Nat) (lb : Array Value) (Enc : α → Array Value → World → Prop) (xs : List α) (w : World) : Prop :=
  ∀ (l : Nat) (J Jx : List α → World → Prop) (W : World), SinceOf w W → (∀ s A B, J s A → SinceOf A B → J s B) → (∀ s A B, Jx s A → SinceOf A B → Jx s B) → (∀ s A, J s A → Kp A) →
    (∀ pre x post args W1, xs = pre ++ x :: post → Enc x args W1 → J pre W1 → YieldAt F (n - 1) P l args W1 fun e W' =>
      (e = .returned (.bool true) ∧ J (pre ++ [x]) W') ∨ (e = .returned (.bool false) ∧ Jx (pre ++ [x]) W')) →
    J [] W →
    CallsIn F n P g (#[.func (.yield l) #[] #[]] ++ lb) W fun e W' => (∃ v, e = .returned v) ∧ (J xs W' ∨ ∃ pre, Jx pre W')
section
variable {F : Fence} {n : Nat} {P : Program}
theorem wpIn_rangeFunc_rel {α : Type} {g : Operand} {ps : Array Tmp} {assign body : Code} {Q : Exit → Act → World → Prop} {a : Act} {w : World}
    (hro : F.round = none) (h1 : 1 ≤ n) {gf : Nat} {lb : Array Value} (hg : a.eval g = .func (.func gf) #[] lb) (hFg : F.fn gf) (eg : ∀ args w, (callFunc gf args).run P w = .ok (.enter gf args) w)
    {Kp : World → Prop} {Enc : α → Array Value → World → Prop} {xs : List α} (hseq : SeqR Kp F (n - 1) P gf lb Enc xs w) (hps : ∀ x args W, Enc x args W → args.size = ps.size)
    (I : List α → World → Prop) (Ix : Code → List α → World → Prop) (hI : ∀ s A B, I s A → A.grownBy B (some (w.heap.size + 1)) → I s B) (hIx : ∀ c s A B, Ix c s A → A.grownBy B (some (w.heap.size + 1)) → Ix c s B) (hK : ∀ s A, I s A → Kp A) (h0 : I [] w)
    (hround : ∀ (l : Nat) (pre : List α) (x : α) (post : List α) (args : Array Value) (W : World), xs = pre ++ x :: post → w.heap.size + 2 ≤ W.heap.size → (∃ o, W.heap[w.heap.size + 1]? = some (.loop o)) → Enc x args W → I pre W → ∃ (a₁ : Act) (V : World), SinceOf W V ∧
      (∀ K : Act → World → Prop, K a₁ V → assign.wpIn (F.inRound l) (n - 1 - 1) P (Exit.then K (fun _ _ _ => False)) { tmps := (ps.zip args).foldl (fun t (p, v) => t.setIfInBounds p v) a.tmps, defers := [] } W) ∧
      (∀ W2 : World, V.grownBy W2 (some (w.heap.size + 1)) → w.heap.size + 2 ≤ W2.heap.size → I pre W2 → body.wpIn (F.inRound l) (n - 1 - 1) P (postG w.heap.size I Ix (pre ++ [x]) W2) a₁ W2))
    (hdone : ∀ (D : Nat) (W : World), w.heap.size ≤ D → I xs W → W.heap[D]? = some (.deferred (some [])) → Q .normal { a with defers := { target := .collected D, args := #[] } :: a.defers } W)
    (hstop : ∀ (D : Nat) (c : Code) (pre : List α) (W : World), w.heap.size ≤ D → Ix c pre W → W.heap[D]? = some (.deferred (some [])) → c.wpIn F n P Q { a with defers := { target := .collected D, args := #[] } :: a.defers } W) :
    (Code.rangeFunc g ps assign body).wpIn F n P Q a w := by
  refine wpIn_rangeFunc ?_
  intro fn hfn
  rw [hro]
  obtain ⟨rec, hrec⟩ : ∃ rec : LoopState → Option Code → Loop, rec = fun st pe => { state := st, pending := pe, fn, tmps := a.tmps, params := ps, assign, body, defers := w.heap.size } := ⟨_, rfl⟩
  obtain ⟨W1, hW1⟩ : ∃ W1, (w.alloc (.deferred (some []))).alloc (.loop (rec .ready none)) = W1 := ⟨_, rfl⟩
  have hz1 : W1.heap.size = w.heap.size + 2 := by rw [← hW1]; simp
  have hL1 : W1.heap[w.heap.size + 1]? = some (.loop (rec .ready none)) := by
    rw [← hW1]; have := World.alloc_heap_new (w.alloc (.deferred (some []))) (.loop (rec .ready none)); rwa [World.size_alloc] at this
  have hK1 : W1.heap[w.heap.size]? = some (.deferred (some [])) := by
    rw [← hW1]; exact (Below.heap_alloc _ _ _ (by simp)).trans (World.alloc_heap_new w _)
  have hb1 : SinceOf w W1 := by rw [← hW1]; exact ((SinceOf.refl w).alloc _).alloc _
  have sg : ∀ {A B : World}, SinceOf A B → A.grownBy B (some (w.heap.size + 1)) := fun h => by
    obtain ⟨z, rfl⟩ := h; exact Since.grownBy z _
  have hI1 : I [] W1 := hI _ _ _ h0 (sg hb1)
  refine ⟨w.heap.size + 1, [{ target := .collected w.heap.size, args := #[] }], W1, { target := .fn (.func gf) lb, args := #[.func (.yield (w.heap.size + 1)) #[] #[]] }, W1, gf,
    #[.func (.yield (w.heap.size + 1)) #[] #[]] ++ lb, W1, ?_, ?_, ?_, ?_, fun _ => h1, ?_⟩
  · rw [← hW1, hrec]; exact run_enterLoop_outer _ _ _ _ _
  · simp only [resolve, hg]
    simp [go_sem]
  · intro f' hf'; simp [Target.leads] at hf'; subst hf'; exact hFg
  · simp [invoke, go_sem, eg]
  · have low : ∀ (A B : World), SinceOf A B → ∀ (o : Obj) (k : Nat), A.heap[k]? = some o → B.heap[k]? = some o := fun A B h o k hk => by
      obtain ⟨z, rfl⟩ := h
      exact (z.below.block k (Array.getElem?_eq_some_iff.1 hk).1).trans hk
    refine (hseq (w.heap.size + 1)
      (fun pre W => I pre W ∧ W.heap[w.heap.size + 1]? = some (.loop (rec .ready none)) ∧ W.heap[w.heap.size]? = some (.deferred (some [])))
      (fun pre W => ∃ c, Ix c pre W ∧ W.heap[w.heap.size + 1]? = some (.loop (rec .done (some c))) ∧ W.heap[w.heap.size]? = some (.deferred (some [])))
      W1 hb1
      (fun s A B hs hab => ⟨hI s A B hs.1 (sg hab), low _ _ hab _ _ hs.2.1, low _ _ hab _ _ hs.2.2⟩)
      (fun s A B hs hab => by
        obtain ⟨c, hc, hl, hk⟩ := hs
        exact ⟨c, hIx c s A B hc (sg hab), low _ _ hab _ _ hl, low _ _ hab _ _ hk⟩)
      (fun s A hs => hK s A hs.1)
      ?_ ⟨hI1, hL1, hK1⟩).mono ?_
    · rintro pre x post args W hxs hen ⟨hi, hl, hk⟩
      have hlt : w.heap.size + 1 < W.heap.size := (Array.getElem?_eq_some_iff.1 hl).1
      have hy := run_yield (P := P) (args := args) hl (by rw [hrec]; exact hps x _ _ hen)
      rw [hrec] at hy
      obtain ⟨a₁, V, hWV, hass, hbod⟩ := hround (w.heap.size + 1) pre x post args W hxs (by omega) ⟨_, hl⟩ hen hi
      have hlV := low _ _ hWV _ _ hl
      have hkV := low _ _ hWV _ _ hk
      have hiV : I pre V := hI _ _ _ hi (sg hWV)
      have hltV : w.heap.size + 1 < V.heap.size := (Array.getElem?_eq_some_iff.1 hlV).1
      refine ⟨fn, _, assign, body, hy, roundIn_of_wpIn hfn (hass _ ⟨_, run_beginRound hlV (by rw [hrec]), ?_⟩)⟩
      obtain ⟨W2, hW2⟩ : ∃ W2, V.putObj (w.heap.size + 1) (.loop { rec .ready none with state := .busy }) = W2 := ⟨_, rfl⟩
      have hl2 : W2.heap[w.heap.size + 1]? = some (.loop { rec .ready none with state := .busy }) := by rw [← hW2]; exact World.putObj_heap_same hltV
      have hk2 : W2.heap[w.heap.size]? = some (.deferred (some [])) := by rw [← hW2]; exact (World.putObj_heap_other (by omega)).trans hkV
      have hz2 : W2.heap.size = V.heap.size := by rw [← hW2]; simp
      have hi2 : I pre W2 := by rw [← hW2]; exact hI _ _ _ hiV (grown_putObj V _)
      have hbd := hbod W2 (by rw [← hW2]; exact grown_putObj V _) (by omega) hi2
      have hbd' := hbd
      rw [← hW2] at hbd'
      refine wpIn_mono hbd' ?_
      have fin : ∀ (jump : Option Code) (W3 : World), Spares w.heap.size W2 W3 → ∃ W4,
          (Instr.endRound (w.heap.size + 1) jump).run P W3 = .ok (.bool jump.isNone) W4 ∧ W3.grownBy W4 (some (w.heap.size + 1)) ∧
          W4.heap[w.heap.size + 1]? = some (.loop (rec (if jump.isNone then .ready else .done) jump)) ∧ W4.heap[w.heap.size]? = some (.deferred (some [])) := fun jump W3 ha => by
        have hl3 := ha.b1.trans hl2
        have hz3 := ha.size
        have := run_endRound (P := P) jump hl3
        rw [hrec] at this ⊢
        exact ⟨_, this, grown_putObj W3 _, World.putObj_heap_same (by omega), (World.putObj_heap_other (by omega)).trans (ha.b0.trans hk2)⟩
      rintro e a3 W3 hp
      cases e with
      | normal =>
        obtain ⟨ha3, hi3⟩ := hp
        obtain ⟨W4, hr, hb, hl4, hk4⟩ := fin none W3 (by rw [← hW2]; exact ha3)
        exact ⟨_, _, hr, .inl ⟨rfl, hI _ _ _ hi3 hb, hl4, hk4⟩⟩
      | ret =>
        obtain ⟨ha3, hi3⟩ := hp
        obtain ⟨W4, hr, hb, hl4, hk4⟩ := fin (some .ret) W3 (by rw [← hW2]; exact ha3)
        exact ⟨_, _, hr, .inr ⟨rfl, .ret, hIx _ _ _ _ hi3 hb, hl4, hk4⟩⟩
      | exit id =>
        obtain ⟨ha3, hi3⟩ := hp
        obtain ⟨W4, hr, hb, hl4, hk4⟩ := fin (some (.exit id)) W3 (by rw [← hW2]; exact ha3)
        exact ⟨_, _, hr, .inr ⟨rfl, .exit id, hIx _ _ _ _ hi3 hb, hl4, hk4⟩⟩
      | goto t =>
        obtain ⟨ha3, hi3⟩ := hp
        obtain ⟨W4, hr, hb, hl4, hk4⟩ := fin (some (.goto t)) W3 (by rw [← hW2]; exact ha3)
        exact ⟨_, _, hr, .inr ⟨rfl, .goto t, hIx _ _ _ _ hi3 hb, hl4, hk4⟩⟩
      | panic ch => exact hp.elim
      | outgrown => exact hp.elim
    · rintro e W2 ⟨⟨v, rfl⟩, (⟨hi, hl, hk⟩ | ⟨pre, c, hi, hl, hk⟩)⟩
      · have hlt := (Array.getElem?_eq_some_iff.1 hl).1
        exact ⟨none, _, by have := run_endLoop (P := P) hl (by rw [hrec]; simp); rw [hrec] at this; exact this, hdone _ _ (Nat.le_refl _) (hI _ _ _ hi (grown_putObj W2 _)) ((World.putObj_heap_other (by omega)).trans hk)⟩
      · have hlt := (Array.getElem?_eq_some_iff.1 hl).1
        exact ⟨some c, _, by have := run_endLoop (P := P) hl (by rw [hrec]; simp); rw [hrec] at this; exact this, hstop _ c pre _ (Nat.le_refl _) (hIx c _ _ _ hi (grown_putObj W2 _)) ((World.putObj_heap_other (by omega)).trans hk)⟩
end
end Go.Proofs.YtpbgimdbhgahkaaGreat
