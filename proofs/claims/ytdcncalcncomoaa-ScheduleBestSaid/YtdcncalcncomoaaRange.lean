/- A loop over an iterator that keeps its state in blocks of its own: what the iterator and the loop's body owe each other, and the loop's rule. -/
import Derived.Test.YtdcncalcncomoaaLater
import Derived.RangeFuncNested
import Derived.RangeFuncBound
import Derived.RangeFuncCalls
import Derived.RangeFuncLeaves
import Derived.OrdersIn
import Derived.Deep.RegionHeld3
namespace Go.Proofs.Ytdcncalcncomoaa
open Go.RowKit
set_option linter.unusedVariables false

/-- I looks at the blocks below B alone. -/
def Local {β : Type} (B : Nat) (I : β → World → Prop) : Prop := ∀ s W W', I s W → Below B W W' → I s W'
/-- From block B on, what was there is as it was. -/
structure Above (B : Nat) (W W' : World) : Prop where
  size : W.heap.size ≤ W'.heap.size
  block : ∀ k, B ≤ k → k < W.heap.size → W'.heap[k]? = W.heap[k]?
theorem Above.refl (B : Nat) (W : World) : Above B W W := ⟨Nat.le_refl _, fun _ _ _ => rfl⟩
theorem Above.trans {B : Nat} {X Y Z : World} (h : Above B X Y) (k : Above B Y Z) : Above B X Z :=
  ⟨Nat.le_trans h.size k.size, fun i hB hi => (k.block i hB (Nat.lt_of_lt_of_le hi h.size)).trans (h.block i hB hi)⟩
theorem Above.mono {B B' : Nat} {X Y : World} (h : Above B X Y) (hb : B ≤ B') : Above B' X Y := ⟨h.size, fun i hB hi => h.block i (Nat.le_trans hb hB) hi⟩
theorem Above.of_since {B : Nat} {W W' : World} (h : SinceOf W W') : Above B W W' := by
  obtain ⟨z, rfl⟩ := h
  exact ⟨z.size, fun k _ hk => z.below.block k hk⟩
theorem Above.putObj {B l : Nat} (W : World) (o : Obj) (hl : l < B) : Above B W (W.putObj l o) :=
  ⟨by simp, fun k hB _ => World.putObj_heap_other (by omega)⟩
theorem Above.setCell {B : Nat} {p : Addr} (W : World) (u : Value) (hl : p.block < B) : Above B W (W.setCell p u) :=
  ⟨by simp [World.setCell], fun k hB _ => Below.heap_setCell W p u k (by omega)⟩
theorem below_putObj {B l : Nat} (W : World) (o : Obj) (hB : B ≤ W.heap.size) (hl : B ≤ l) : Below B W (W.putObj l o) :=
  (Below.refl B W).grown (grownBy_putObj' W l o) hB (fun k e => by cases e; exact hl)

/-- What an iterator that yields xs promises. -/
def SeqL {α : Type} (F : Fence) (n : Nat) (P : Program) (g : Nat) (lb : Array Value) (encs : α → Array Value) (xs : List α) (w : World) : Prop :=
  ∀ (l : Nat) (J Jx : List α → World → Prop) (W : World), SinceOf w W → Local W.heap.size J → Local W.heap.size Jx →
    (∀ pre x post W1, xs = pre ++ x :: post → J pre W1 → YieldAt F (n - 1) P l (encs x) W1 fun e W' =>
      (e = .returned (.bool true) ∧ J (pre ++ [x]) W' ∧ Above W.heap.size W1 W') ∨ (e = .returned (.bool false) ∧ Jx (pre ++ [x]) W')) →
    J [] W →
    CallsIn F n P g (#[.func (.yield l) #[] #[]] ++ lb) W fun e W' => (∃ v, e = .returned v) ∧ (J xs W' ∨ ∃ pre, Jx pre W')

/-- How a round's body may be left. -/
def postL {α : Type} (B : Nat) (I : List α → World → Prop) (Ix : Code → List α → World → Prop) (xs : List α) (W : World) : Exit → Act → World → Prop
  | .normal, _, W' => Above B W W' ∧ I xs W'
  | .ret, _, W' => Above B W W' ∧ Ix .ret xs W'
  | .exit id, _, W' => Above B W W' ∧ Ix (.exit id) xs W'
  | .goto t, _, W' => Above B W W' ∧ Ix (.goto t) xs W'
  | .panic _, _, _ => False
  | .outgrown, _, _ => False

section
variable {F : Fence} {n : Nat} {P : Program}
theorem wpIn_rangeFunc_local {α : Type} {g : Operand} {ps : Array Tmp} {assign body : Code} {Q : Exit → Act → World → Prop} {a : Act} {w : World}
    (hro : F.round = none) (h1 : 1 ≤ n) {gf : Nat} {lb : Array Value} (hg : a.eval g = .func (.func gf) #[] lb) (hFg : F.fn gf) (eg : ∀ args w, (callFunc gf args).run P w = .ok (.enter gf args) w)
    {encs : α → Array Value} {xs : List α} (hseq : SeqL F (n - 1) P gf lb encs xs w) (hps : ∀ x, (encs x).size = ps.size)
    (I : List α → World → Prop) (Ix : Code → List α → World → Prop) (hI : Local w.heap.size I) (hIx : ∀ c, Local w.heap.size (Ix c)) (h0 : I [] w)
    (hround : ∀ (l : Nat) (pre : List α) (x : α) (post : List α) (W : World), xs = pre ++ x :: post → w.heap.size ≤ W.heap.size → I pre W → ∃ a₁ : Act,
      (∀ K : Act → World → Prop, K a₁ W → assign.wpIn (F.inRound l) (n - 1 - 1) P (Exit.then K (fun _ _ _ => False)) { tmps := (ps.zip (encs x)).foldl (fun t (p, v) => t.setIfInBounds p v) a.tmps, defers := [] } W) ∧
      (∀ W2 : World, w.heap.size ≤ W2.heap.size → I pre W2 → body.wpIn (F.inRound l) (n - 1 - 1) P (postL w.heap.size I Ix (pre ++ [x]) W2) a₁ W2))
    (hdone : ∀ (D : Nat) (W : World), w.heap.size ≤ D → I xs W → W.heap[D]? = some (.deferred (some [])) → Q .normal { a with defers := { target := .collected D, args := #[] } :: a.defers } W)
    (hstop : ∀ (D : Nat) (c : Code) (pre : List α) (W : World), w.heap.size ≤ D → Ix c pre W → W.heap[D]? = some (.deferred (some [])) → c.wpIn F n P Q { a with defers := { target := .collected D, args := #[] } :: a.defers } W) :
    (Code.rangeFunc g ps assign body).wpIn F n P Q a w := by
  refine wpIn_rangeFunc ?_
  intro fn hfn
  rw [hro]
  obtain ⟨rec, hrec⟩ : ∃ rec : LoopState → Option Code → Loop, rec = fun st pe => { state := st, pending := pe, fn, tmps := a.tmps, params := ps, assign, body, defers := w.heap.size } := ⟨_, rfl⟩
  obtain ⟨W1, hW1⟩ : ∃ W1, (w.alloc (.deferred (some []))).alloc (.loop (rec .ready none)) = W1 := ⟨_, rfl⟩
  have hz1 : W1.heap.size = w.heap.size + 2 := by rw [← hW1]; simp
  have hL1 : W1.heap[w.heap.size + 1]? = some (.loop (rec .ready none)) := by
    rw [← hW1]; have := World.alloc_heap_new (w.alloc (.deferred (some []))) (.loop (rec .ready none)); rwa [World.size_alloc] at this
  have hK1 : W1.heap[w.heap.size]? = some (.deferred (some [])) := by
    rw [← hW1]; exact (Below.heap_alloc _ _ _ (by simp)).trans (World.alloc_heap_new w _)
  have hb1 : SinceOf w W1 := by rw [← hW1]; exact ((SinceOf.refl w).alloc _).alloc _
  have hI1 : I [] W1 := hI _ _ _ h0 hb1.below
  refine ⟨w.heap.size + 1, [{ target := .collected w.heap.size, args := #[] }], W1, { target := .fn (.func gf) lb, args := #[.func (.yield (w.heap.size + 1)) #[] #[]] }, W1, gf,
    #[.func (.yield (w.heap.size + 1)) #[] #[]] ++ lb, W1, ?_, ?_, ?_, ?_, fun _ => h1, ?_⟩
  · rw [← hW1, hrec]; exact run_enterLoop_outer _ _ _ _ _
  · simp only [resolve, hg]
    simp [go_sem]
  · intro f' hf'; simp [Target.leads] at hf'; subst hf'; exact hFg
  · simp [invoke, go_sem, eg]
  · have low : ∀ {A B : World}, Below W1.heap.size A B → Below w.heap.size A B ∧ B.heap[w.heap.size]? = A.heap[w.heap.size]? ∧ B.heap[w.heap.size + 1]? = A.heap[w.heap.size + 1]? :=
      fun h => ⟨h.mono (by omega), h.block _ (by omega), h.block _ (by omega)⟩
    refine (hseq (w.heap.size + 1)
      (fun pre W => I pre W ∧ W.heap[w.heap.size + 1]? = some (.loop (rec .ready none)) ∧ W.heap[w.heap.size]? = some (.deferred (some [])))
      (fun pre W => ∃ c, Ix c pre W ∧ W.heap[w.heap.size + 1]? = some (.loop (rec .done (some c))) ∧ W.heap[w.heap.size]? = some (.deferred (some [])))
      W1 hb1
      (fun s A B hs hab => ⟨hI s A B hs.1 (low hab).1, (low hab).2.2.trans hs.2.1, (low hab).2.1.trans hs.2.2⟩)
      (fun s A B hs hab => by
        obtain ⟨c, hc, hl, hk⟩ := hs
        exact ⟨c, hIx c s A B hc (low hab).1, (low hab).2.2.trans hl, (low hab).2.1.trans hk⟩)
      ?_ ⟨hI1, hL1, hK1⟩).mono ?_
    · rintro pre x post W hxs ⟨hi, hl, hk⟩
      have hlt : w.heap.size + 1 < W.heap.size := (Array.getElem?_eq_some_iff.1 hl).1
      have hy := run_yield (P := P) (args := encs x) hl (by rw [hrec]; exact hps x)
      rw [hrec] at hy
      obtain ⟨a₁, hass, hbod⟩ := hround (w.heap.size + 1) pre x post W hxs (by omega) hi
      refine ⟨fn, _, assign, body, hy, roundIn_of_wpIn hfn (hass _ ⟨_, run_beginRound hl (by rw [hrec]), ?_⟩)⟩
      obtain ⟨W2, hW2⟩ : ∃ W2, W.putObj (w.heap.size + 1) (.loop { rec .ready none with state := .busy }) = W2 := ⟨_, rfl⟩
      have hl2 : W2.heap[w.heap.size + 1]? = some (.loop { rec .ready none with state := .busy }) := by rw [← hW2]; exact World.putObj_heap_same hlt
      have hk2 : W2.heap[w.heap.size]? = some (.deferred (some [])) := by rw [← hW2]; exact (World.putObj_heap_other (by omega)).trans hk
      have hz2 : W2.heap.size = W.heap.size := by rw [← hW2]; simp
      have hi2 : I pre W2 := by rw [← hW2]; exact hI _ _ _ hi (below_putObj W _ (by omega) (by omega))
      have ha2 : Above W1.heap.size W W2 := by rw [← hW2]; exact Above.putObj W _ (by omega)
      have hbd := hbod W2 (by omega) hi2
      have hbd' := hbd
      rw [← hW2] at hbd'
      refine wpIn_mono hbd' ?_
      have fin : ∀ (jump : Option Code) (W3 : World), Above w.heap.size W2 W3 → ∃ W4,
          (Instr.endRound (w.heap.size + 1) jump).run P W3 = .ok (.bool jump.isNone) W4 ∧ Below w.heap.size W3 W4 ∧ Above W1.heap.size W W4 ∧
          W4.heap[w.heap.size + 1]? = some (.loop (rec (if jump.isNone then .ready else .done) jump)) ∧ W4.heap[w.heap.size]? = some (.deferred (some [])) := fun jump W3 ha => by
        have hl3 := (ha.block _ (by omega) (by omega)).trans hl2
        have hz3 := ha.size
        have := run_endRound (P := P) jump hl3
        rw [hrec] at this ⊢
        exact ⟨_, this, below_putObj W3 _ (by omega) (by omega), ha2.trans ((ha.mono (by omega)).trans (Above.putObj W3 _ (by omega))),
          World.putObj_heap_same (by omega), (World.putObj_heap_other (by omega)).trans ((ha.block _ (by omega) (by omega)).trans hk2)⟩
      rintro e a3 W3 hp
      cases e with
      | normal =>
        obtain ⟨ha3, hi3⟩ := hp
        obtain ⟨W4, hr, hb, ha, hl4, hk4⟩ := fin none W3 (by rw [← hW2]; exact ha3)
        exact ⟨_, _, hr, .inl ⟨rfl, ⟨hI _ _ _ hi3 hb, hl4, hk4⟩, ha⟩⟩
      | ret =>
        obtain ⟨ha3, hi3⟩ := hp
        obtain ⟨W4, hr, hb, ha, hl4, hk4⟩ := fin (some .ret) W3 (by rw [← hW2]; exact ha3)
        exact ⟨_, _, hr, .inr ⟨rfl, .ret, hIx _ _ _ _ hi3 hb, hl4, hk4⟩⟩
      | exit id =>
        obtain ⟨ha3, hi3⟩ := hp
        obtain ⟨W4, hr, hb, ha, hl4, hk4⟩ := fin (some (.exit id)) W3 (by rw [← hW2]; exact ha3)
        exact ⟨_, _, hr, .inr ⟨rfl, .exit id, hIx _ _ _ _ hi3 hb, hl4, hk4⟩⟩
      | goto t =>
        obtain ⟨ha3, hi3⟩ := hp
        obtain ⟨W4, hr, hb, ha, hl4, hk4⟩ := fin (some (.goto t)) W3 (by rw [← hW2]; exact ha3)
        exact ⟨_, _, hr, .inr ⟨rfl, .goto t, hIx _ _ _ _ hi3 hb, hl4, hk4⟩⟩
      | panic ch => exact hp.elim
      | outgrown => exact hp.elim
    · rintro e W2 ⟨⟨v, rfl⟩, (⟨hi, hl, hk⟩ | ⟨pre, c, hi, hl, hk⟩)⟩
      · have hlt := (Array.getElem?_eq_some_iff.1 hl).1
        exact ⟨none, _, by have := run_endLoop (P := P) hl (by rw [hrec]; simp); rw [hrec] at this; exact this, hdone _ _ (Nat.le_refl _) (hI _ _ _ hi (below_putObj W2 _ (by omega) (by omega))) ((World.putObj_heap_other (by omega)).trans hk)⟩
      · have hlt := (Array.getElem?_eq_some_iff.1 hl).1
        exact ⟨some c, _, by have := run_endLoop (P := P) hl (by rw [hrec]; simp); rw [hrec] at this; exact this, hstop _ c pre _ (Nat.le_refl _) (hIx c _ _ _ hi (below_putObj W2 _ (by omega) (by omega))) ((World.putObj_heap_other (by omega)).trans hk)⟩
end

section
variable {P : Program} {ops : Array Oper} {Q : Exit → Act → World → Prop} {md : Region.Mode} {S : World → Prop} {n l : Nat}
def noDefer (ops : Array Oper) : Bool := ops.all fun o => match o.op with | .defer _ => false | _ => true
theorem noDefer_at (h : noDefer ops = true) {i : Nat} {o : Oper} (hi : ops[i]? = some o) (c : Call) : o.op ≠ .defer c := by
  intro e
  unfold noDefer at h
  rw [Array.all_eq_true] at h
  obtain ⟨hlt, he⟩ := Array.getElem?_eq_some_iff.1 hi
  have := h i hlt
  rw [he, e] at this
  cases this
theorem op_in_round {o : Oper} (hnd : ∀ c, o.op ≠ .defer c) {K : Act → World → Prop} {a : Act} {w : World} (h : Oper.wp P o a w K Q) : Oper.wpIn (Fence.wide.inRound l) n P o a w K Q := by
  refine ⟨fun _ _ => trivial, ?_⟩
  rw [show o.semAt (Fence.wide.inRound l).round a.eval = execOp a.eval o from Oper.semAt_eq _ _ _ hnd]
  unfold Oper.wp at h
  generalize (execOp a.eval o).run P w = r at *
  cases r with
  | ok x w' =>
    cases x <;> simp only [Oper.upon] at h <;> simp only [Oper.uponIn]
    case value => exact h
    case skip => exact h
    case defer => exact h
    case enter f args => exact ⟨fun h => by simp [Fence.wide, Fence.inRound] at h, CallsIn.inRound l (callsIn_wide.2 h)⟩
    case row row args =>
      refine ⟨fun h => by simp [Fence.wide, Fence.inRound] at h, fun c cs _ => ?_⟩
      obtain ⟨v, w2, hR, hs⟩ := h c cs
      exact ⟨v, w2, hR, stepsIn_wide.2 hs⟩
  | halt x w' =>
    cases x <;> simp only [Oper.upon] at h <;> simp only [Oper.uponIn]
    exact h
theorem any_in_round (hnd : noDefer ops = true) (hno : ¬ LetsOut Q) : ∀ (fuel : Nat) (listed : Array Bool) (a : Act) (w : World), wpAny P md ops Q fuel listed a w → wpAnyIn (Fence.wide.inRound l) n P md ops Q fuel listed a w
  | 0, _, _, _, h => h
  | fuel + 1, listed, a, w, h => by
    refine ⟨h.1, fun i hi => ?_⟩
    have h2 := h.2 i hi
    unfold wpOp at h2
    unfold wpOpIn
    cases ho : ops[i]? with
    | none =>
      simp only [ho] at h2
      exact any_in_round hnd hno fuel _ _ _ h2
    | some o =>
      simp only [ho] at h2
      by_cases hw : Region.wanted o (yielded ops a.tmps) = true
      · simp only [hw, if_true] at h2 ⊢
        rcases h2 with h2 | h2
        · exact Oper.wpIn_mono (fun a w h => any_in_round hnd hno fuel _ a w h) (op_in_round (noDefer_at hnd ho) h2)
        · exact absurd h2.2 hno
      · simp only [hw] at h2 ⊢
        exact ⟨fun _ _ => trivial, any_in_round hnd hno fuel _ _ _ h2⟩
/-- Q, but no panic and no outgrown end. -/
def Calm (Q : Exit → Act → World → Prop) : Exit → Act → World → Prop
  | .panic _, _, _ => False
  | .outgrown, _, _ => False
  | e, a, w => Q e a w
theorem Calm.imp {Q : Exit → Act → World → Prop} : ∀ (e : Exit) (a : Act) (w : World), Calm Q e a w → Q e a w := fun e a w h => by
  cases e <;> first | exact h | exact (h : False).elim
theorem take_at {i : Nat} {oi : Oper} {d : Option Tmp} {v : Value} {fuel : Nat} {listed : Array Bool} {a : Act} {w : World} (hi : ops[i]? = some oi) (hd : oi.dst = d)
    (hs : Region.noSelect ops = true) (hf : Region.free md ops listed i = true) (hr : (Region.ready md ops listed).contains i = true)
    (hQ : ∀ c a w, Q (.panic c) (a.put oi.dst v) w → Q (.panic c) a w) (hy : YieldsIf P ops S oi v a) (hS : S w)
    (h : wpAnyH P md ops Q S fuel (listed.setIfInBounds i true) (a.put d v) w) : wpAnyH P md ops Q S (fuel + 1) listed a w :=
  wpAnyH_take hi hs hf hr hQ hy hS (hd ▸ h)
theorem step_at {i : Nat} {o : Oper} {fuel : Nat} {listed : Array Bool} {a : Act} {w : World} (hr : Region.ready md ops listed = [i]) (ho : ops[i]? = some o)
    (h : ∀ K' : Act → World → Prop, Shut (∀ a w, S w → (S w → wpAnyH P md ops Q S fuel (listed.setIfInBounds i true) a w) → K' a w) → if Region.wanted o (yielded ops a.tmps) = true then Oper.wp P o a w K' Q else K' (a.put o.dst undef) w) : wpAnyH P md ops Q S (fuel + 1) listed a w :=
  wpAnyH_ready hr (by simp) (AllReadyH.cons ho h AllReadyH.nil)
theorem Calm.normal {Q : Exit → Act → World → Prop} {a : Act} {w : World} (h : Q .normal a w) : Calm Q .normal a w := h
theorem region_in_round {id : Nat} {a : Act} {w : World} (hm : P.follows .mixedOrders = true) (hnd : noDefer ops = true) (hS : S w.drew)
    (h : S w.drew → wpAnyH P .any ops (Calm Q) S ops.size (Array.replicate ops.size false) a w.drew) : (Code.region id ops true).wpIn (Fence.wide.inRound l) n P Q a w :=
  Code.wpIn_mono Calm.imp (wpIn_region_any hm (any_in_round hnd (fun ⟨_, _, h⟩ => h) _ _ _ _ (wpAny_of_held _ _ _ _ (h hS))))
end
end Go.Proofs.Ytdcncalcncomoaa
