/- A loop over an iterator that keeps its state in blocks of its own: what the iterator and the loop's body owe each other, and the loop's rule. -/
import Derived.Test.YtpaojgfmffkodaaGreatLSl
import Derived.RangeFuncNested
import Derived.RangeFuncBound
import Derived.RangeFuncCalls
import Derived.RangeFuncLeaves
import Derived.OrdersIn
import Derived.Deep.RegionHeld3
import Derived.Test.YtpaojgfmffkodaaGreatLCal2
import Derived.Shelf.Abstract
import Derived.Shelf.RegionOpen
import Derived.OwnWalkIn
import Derived.TacticsInMore
import Derived.LoopNIn
import Derived.LoopIn
namespace Go.Proofs.YtpaojgfmffkodaaGreat
set_option linter.unusedVariables false
set_option linter.unusedSimpArgs false
open Go.RowKit
def Local {β : Type} (B : Nat) (I : β → World → Prop) : Prop := ∀ s W W', I s W → Below B W W' → I s W'
structure Above (B : Nat) (W W' : World) : Prop where
  size : W.heap.size ≤ W'.heap.size
  block : ∀ k, B ≤ k → k < W.heap.size → W'.heap[k]? = W.heap[k]?
theorem Above.refl (B : Nat) (W : World) : Above B W W := ⟨Nat.le_refl _, fun _ _ _ => rfl⟩
theorem Above.trans {B : Nat} {X Y Z : World} (h : Above B X Y) (k : Above B Y Z) : Above B X Z :=
  ⟨Nat.le_trans h.size k.size, fun i hB hi => (k.block i hB (Nat.lt_of_lt_of_le hi h.size)).trans (h.block i hB hi)⟩
theorem Above.mono {B B' : Nat} {X Y : World} (h : Above B X Y) (hb : B ≤ B') : Above B' X Y := ⟨h.size, fun i hB hi => h.block i (Nat.le_trans hb hB) hi⟩
theorem Above.of_since {B : Nat} {W W' : World} (h : SinceOf W W') : Above B W W' := by
  obtain ⟨z, rfl⟩ := h
  exact ⟨z.size, fun k _ hk => z.below.block k hk⟩
theorem Above.putObj {B l : Nat} (W : World) (o : Obj) (hl : l < B) : Above B W (W.putObj l o) :=
  ⟨by simp, fun k hB _ => World.putObj_heap_other (by omega)⟩
theorem Above.setCell {B : Nat} {p : Addr} (W : World) (u : Value) (hl : p.block < B) : Above B W (W.setCell p u) :=
  ⟨by simp [World.setCell], fun k hB _ => Below.heap_setCell W p u k (by omega)⟩
theorem below_putObj {B l : Nat} (W : World) (o : Obj) (hB : B ≤ W.heap.size) (hl : B ≤ l) : Below B W (W.putObj l o) :=
  (Below.refl B W).grown (grownBy_putObj' W l o) hB (fun k e => by cases e; exact hl)
def SeqL {α : Type} (F : Fence) (n : Nat) (P : Program) (g : Nat) (lb : Array Value) (encs : α → Array Value) (xs : List α) (w : World) : Prop :=
  ∀ (l : Nat) (J Jx : List α → World → Prop) (W : World), SinceOf w W → Local W.heap.size J → Local W.heap.size Jx →
    (∀ pre x post W1, xs = pre ++ x :: post → J pre W1 → YieldAt F (n - 1) P l (encs x) W1 fun e W' =>
      (e = .returned (.bool true) ∧ J (pre ++ [x]) W' ∧ Above W.heap.size W1 W') ∨ (e = .returned (.bool false) ∧ Jx (pre ++ [x]) W')) →
    J [] W →
    CallsIn F n P g (#[.func (.yield l) #[] #[]] ++ lb) W fun e W' => (∃ v, e = .returned v) ∧ (J xs W' ∨ ∃ pre, Jx pre W')
def postL {α : Type} (B : Nat) (I : List α → World → Prop) (Ix : Code → List α → World → Prop) (xs : List α) (W : World) : Exit → Act → World → Prop
  | .normal, _, W' => Above B W W' ∧ I xs W'
  | .ret, _, W' => Above B W W' ∧ Ix .ret xs W'
  | .exit id, _, W' => Above B W W' ∧ Ix (.exit id) xs W'
  | .goto t, _, W' => Above B W W' ∧ Ix (.goto t) xs W'
  | .panic _, _, _ => False
  | .outgrown, _, _ => False
section
variable {F : Fence} {n : Nat} {P : Program}
theorem wpIn_rangeFunc_local {α : Type} {g : Operand} {ps : Array Tmp} {assign body : Code} {Q : Exit → Act → World → Prop} {a : Act} {w : World}
    (hro : F.round = none) (h1 : 1 ≤ n) {gf : Nat} {lb : Array Value} (hg : a.eval g = .func (.func gf) #[] lb) (hFg : F.fn gf) (eg : ∀ args w, (callFunc gf args).run P w = .ok (.enter gf args) w)
    {encs : α → Array Value} {xs : List α} (hseq : SeqL F (n - 1) P gf lb encs xs w) (hps : ∀ x, (encs x).size = ps.size)
    (I : List α → World → Prop) (Ix : Code → List α → World → Prop) (hI : Local w.heap.size I) (hIx : ∀ c, Local w.heap.size (Ix c)) (h0 : I [] w)
    (hround : ∀ (l : Nat) (pre : List α) (x : α) (post : List α) (W : World), xs = pre ++ x :: post → w.heap.size ≤ W.heap.size → I pre W → ∃ a₁ : Act,
      (∀ K : Act → World → Prop, K a₁ W → assign.wpIn (F.inRound l) (n - 1 - 1) P (Exit.then K (fun _ _ _ => False)) { tmps := (ps.zip (encs x)).foldl (fun t (p, v) => t.setIfInBounds p v) a.tmps, defers := [] } W) ∧
      (∀ W2 : World, w.heap.size ≤ W2.heap.size → I pre W2 → body.wpIn (F.inRound l) (n - 1 - 1) P (postL w.heap.size I Ix (pre ++ [x]) W2) a₁ W2))
    (hdone : ∀ (D : Nat) (W : World), w.heap.size ≤ D → I xs W → W.heap[D]? = some (.deferred (some [])) → Q .normal { a with defers := { target := .collected D, args := #[] } :: a.defers } W)
    (hstop : ∀ (D : Nat) (c : Code) (pre : List α) (W : World), w.heap.size ≤ D → Ix c pre W → W.heap[D]? = some (.deferred (some [])) → c.wpIn F n P Q { a with defers := { target := .collected D, args := #[] } :: a.defers } W) :
    (Code.rangeFunc g ps assign body).wpIn F n P Q a w := by
  refine wpIn_rangeFunc ?_
  intro fn hfn
  rw [hro]
  obtain ⟨rec, hrec⟩ : ∃ rec : LoopState → Option Code → Loop, rec = fun st pe => { state := st, pending := pe, fn, tmps := a.tmps, params := ps, assign, body, defers := w.heap.size } := ⟨_, rfl⟩
  obtain ⟨W1, hW1⟩ : ∃ W1, (w.alloc (.deferred (some []))).alloc (.loop (rec .ready none)) = W1 := ⟨_, rfl⟩
  have hz1 : W1.heap.size = w.heap.size + 2 := by rw [← hW1]; simp
  have hL1 : W1.heap[w.heap.size + 1]? = some (.loop (rec .ready none)) := by
    rw [← hW1]; have := World.alloc_heap_new (w.alloc (.deferred (some []))) (.loop (rec .ready none)); rwa [World.size_alloc] at this
  have hK1 : W1.heap[w.heap.size]? = some (.deferred (some [])) := by
    rw [← hW1]; exact (Below.heap_alloc _ _ _ (by simp)).trans (World.alloc_heap_new w _)
  have hb1 : SinceOf w W1 := by rw [← hW1]; exact ((SinceOf.refl w).alloc _).alloc _
  have hI1 : I [] W1 := hI _ _ _ h0 hb1.below
  refine ⟨w.heap.size + 1, [{ target := .collected w.heap.size, args := #[] }], W1, { target := .fn (.func gf) lb, args := #[.func (.yield (w.heap.size + 1)) #[] #[]] }, W1, gf,
    #[.func (.yield (w.heap.size + 1)) #[] #[]] ++ lb, W1, ?_, ?_, ?_, ?_, fun _ => h1, ?_⟩
  · rw [← hW1, hrec]; exact run_enterLoop_outer _ _ _ _ _
  · simp only [resolve, hg]
    simp [go_sem]
  · intro f' hf'; simp [Target.leads] at hf'; subst hf'; exact hFg
  · simp [invoke, go_sem, eg]
  · have low : ∀ {A B : World}, Below W1.heap.size A B → Below w.heap.size A B ∧ B.heap[w.heap.size]? = A.heap[w.heap.size]? ∧ B.heap[w.heap.size + 1]? = A.heap[w.heap.size + 1]? :=
      fun h => ⟨h.mono (by omega), h.block _ (by omega), h.block _ (by omega)⟩
    refine (hseq (w.heap.size + 1)
      (fun pre W => I pre W ∧ W.heap[w.heap.size + 1]? = some (.loop (rec .ready none)) ∧ W.heap[w.heap.size]? = some (.deferred (some [])))
      (fun pre W => ∃ c, Ix c pre W ∧ W.heap[w.heap.size + 1]? = some (.loop (rec .done (some c))) ∧ W.heap[w.heap.size]? = some (.deferred (some [])))
      W1 hb1
      (fun s A B hs hab => ⟨hI s A B hs.1 (low hab).1, (low hab).2.2.trans hs.2.1, (low hab).2.1.trans hs.2.2⟩)
      (fun s A B hs hab => by
        obtain ⟨c, hc, hl, hk⟩ := hs
        exact ⟨c, hIx c s A B hc (low hab).1, (low hab).2.2.trans hl, (low hab).2.1.trans hk⟩)
      ?_ ⟨hI1, hL1, hK1⟩).mono ?_
    · rintro pre x post W hxs ⟨hi, hl, hk⟩
      have hlt : w.heap.size + 1 < W.heap.size := (Array.getElem?_eq_some_iff.1 hl).1
      have hy := run_yield (P := P) (args := encs x) hl (by rw [hrec]; exact hps x)
      rw [hrec] at hy
      obtain ⟨a₁, hass, hbod⟩ := hround (w.heap.size + 1) pre x post W hxs (by omega) hi
      refine ⟨fn, _, assign, body, hy, roundIn_of_wpIn hfn (hass _ ⟨_, run_beginRound hl (by rw [hrec]), ?_⟩)⟩
      obtain ⟨W2, hW2⟩ : ∃ W2, W.putObj (w.heap.size + 1) (.loop { rec .ready none with state := .busy }) = W2 := ⟨_, rfl⟩
      have hl2 : W2.heap[w.heap.size + 1]? = some (.loop { rec .ready none with state := .busy }) := by rw [← hW2]; exact World.putObj_heap_same hlt
      have hk2 : W2.heap[w.heap.size]? = some (.deferred (some [])) := by rw [← hW2]; exact (World.putObj_heap_other (by omega)).trans hk
      have hz2 : W2.heap.size = W.heap.size := by rw [← hW2]; simp
      have hi2 : I pre W2 := by rw [← hW2]; exact hI _ _ _ hi (below_putObj W _ (by omega) (by omega))
      have ha2 : Above W1.heap.size W W2 := by rw [← hW2]; exact Above.putObj W _ (by omega)
      have hbd := hbod W2 (by omega) hi2
      have hbd' := hbd
      rw [← hW2] at hbd'
      refine wpIn_mono hbd' ?_
      have fin : ∀ (jump : Option Code) (W3 : World), Above w.heap.size W2 W3 → ∃ W4,
          (Instr.endRound (w.heap.size + 1) jump).run P W3 = .ok (.bool jump.isNone) W4 ∧ Below w.heap.size W3 W4 ∧ Above W1.heap.size W W4 ∧
          W4.heap[w.heap.size + 1]? = some (.loop (rec (if jump.isNone then .ready else .done) jump)) ∧ W4.heap[w.heap.size]? = some (.deferred (some [])) := fun jump W3 ha => by
        have hl3 := (ha.block _ (by omega) (by omega)).trans hl2
        have hz3 := ha.size
        have := run_endRound (P := P) jump hl3
        rw [hrec] at this ⊢
        exact ⟨_, this, below_putObj W3 _ (by omega) (by omega), ha2.trans ((ha.mono (by omega)).trans (Above.putObj W3 _ (by omega))),
          World.putObj_heap_same (by omega), (World.putObj_heap_other (by omega)).trans ((ha.block _ (by omega) (by omega)).trans hk2)⟩
      rintro e a3 W3 hp
      cases e with
      | normal =>
        obtain ⟨ha3, hi3⟩ := hp
        obtain ⟨W4, hr, hb, ha, hl4, hk4⟩ := fin none W3 (by rw [← hW2]; exact ha3)
        exact ⟨_, _, hr, .inl ⟨rfl, ⟨hI _ _ _ hi3 hb, hl4, hk4⟩, ha⟩⟩
      | ret =>
        obtain ⟨ha3, hi3⟩ := hp
        obtain ⟨W4, hr, hb, ha, hl4, hk4⟩ := fin (some .ret) W3 (by rw [← hW2]; exact ha3)
        exact ⟨_, _, hr, .inr ⟨rfl, .ret, hIx _ _ _ _ hi3 hb, hl4, hk4⟩⟩
      | exit id =>
        obtain ⟨ha3, hi3⟩ := hp
        obtain ⟨W4, hr, hb, ha, hl4, hk4⟩ := fin (some (.exit id)) W3 (by rw [← hW2]; exact ha3)
        exact ⟨_, _, hr, .inr ⟨rfl, .exit id, hIx _ _ _ _ hi3 hb, hl4, hk4⟩⟩
      | goto t =>
        obtain ⟨ha3, hi3⟩ := hp
        obtain ⟨W4, hr, hb, ha, hl4, hk4⟩ := fin (some (.goto t)) W3 (by rw [← hW2]; exact ha3)
        exact ⟨_, _, hr, .inr ⟨rfl, .goto t, hIx _ _ _ _ hi3 hb, hl4, hk4⟩⟩
      | panic ch => exact hp.elim
      | outgrown => exact hp.elim
    · rintro e W2 ⟨⟨v, rfl⟩, (⟨hi, hl, hk⟩ | ⟨pre, c, hi, hl, hk⟩)⟩
      · have hlt := (Array.getElem?_eq_some_iff.1 hl).1
        exact ⟨none, _, by have := run_endLoop (P := P) hl (by rw [hrec]; simp); rw [hrec] at this; exact this, hdone _ _ (Nat.le_refl _) (hI _ _ _ hi (below_putObj W2 _ (by omega) (by omega))) ((World.putObj_heap_other (by omega)).trans hk)⟩
      · have hlt := (Array.getElem?_eq_some_iff.1 hl).1
        exact ⟨some c, _, by have := run_endLoop (P := P) hl (by rw [hrec]; simp); rw [hrec] at this; exact this, hstop _ c pre _ (Nat.le_refl _) (hIx c _ _ _ hi (below_putObj W2 _ (by omega) (by omega))) ((World.putObj_heap_other (by omega)).trans hk)⟩
end
section
variable {P : Program} {ops : Array Oper} {Q : Exit → Act → World → Prop} {md : Region.Mode} {S : World → Prop} {n l : Nat}
def noDefer (ops : Array Oper) : Bool := ops.all fun o => match o.op with | .defer _ => false | _ => true
theorem noDefer_at (h : noDefer ops = true) {i : Nat} {o : Oper} (hi : ops[i]? = some o) (c : Call) : o.op ≠ .defer c := by
  intro e
  unfold noDefer at h
  rw [Array.all_eq_true] at h
  obtain ⟨hlt, he⟩ := Array.getElem?_eq_some_iff.1 hi
  have := h i hlt
  rw [he, e] at this
  cases this
theorem op_in_round {o : Oper} (hnd : ∀ c, o.op ≠ .defer c) {K : Act → World → Prop} {a : Act} {w : World} (h : Oper.wp P o a w K Q) : Oper.wpIn (Fence.wide.inRound l) n P o a w K Q := by
  refine ⟨fun _ _ => trivial, ?_⟩
  rw [show o.semAt (Fence.wide.inRound l).round a.eval = execOp a.eval o from Oper.semAt_eq _ _ _ hnd]
  unfold Oper.wp at h
  generalize (execOp a.eval o).run P w = r at *
  cases r with
  | ok x w' =>
    cases x <;> simp only [Oper.upon] at h <;> simp only [Oper.uponIn]
    case value => exact h
    case skip => exact h
    case defer => exact h
    case enter f args => exact ⟨fun h => by simp [Fence.wide, Fence.inRound] at h, CallsIn.inRound l (callsIn_wide.2 h)⟩
    case row row args =>
      refine ⟨fun h => by simp [Fence.wide, Fence.inRound] at h, fun c cs _ => ?_⟩
      obtain ⟨v, w2, hR, hs⟩ := h c cs
      exact ⟨v, w2, hR, stepsIn_wide.2 hs⟩
  | halt x w' =>
    cases x <;> simp only [Oper.upon] at h <;> simp only [Oper.uponIn]
    exact h
theorem any_in_round (hnd : noDefer ops = true) (hno : ¬ LetsOut Q) : ∀ (fuel : Nat) (listed : Array Bool) (a : Act) (w : World), wpAny P md ops Q fuel listed a w → wpAnyIn (Fence.wide.inRound l) n P md ops Q fuel listed a w
  | 0, _, _, _, h => h
  | fuel + 1, listed, a, w, h => by
    refine ⟨h.1, fun i hi => ?_⟩
    have h2 := h.2 i hi
    unfold wpOp at h2
    unfold wpOpIn
    cases ho : ops[i]? with
    | none =>
      simp only [ho] at h2
      exact any_in_round hnd hno fuel _ _ _ h2
    | some o =>
      simp only [ho] at h2
      by_cases hw : Region.wanted o (yielded ops a.tmps) = true
      · simp only [hw, if_true] at h2 ⊢
        rcases h2 with h2 | h2
        · exact Oper.wpIn_mono (fun a w h => any_in_round hnd hno fuel _ a w h) (op_in_round (noDefer_at hnd ho) h2)
        · exact absurd h2.2 hno
      · simp only [hw] at h2 ⊢
        exact ⟨fun _ _ => trivial, any_in_round hnd hno fuel _ _ _ h2⟩
def Calm (Q : Exit → Act → World → Prop) : Exit → Act → World → Prop
  | .panic _, _, _ => False
  | .outgrown, _, _ => False
  | e, a, w => Q e a w
theorem Calm.imp {Q : Exit → Act → World → Prop} : ∀ (e : Exit) (a : Act) (w : World), Calm Q e a w → Q e a w := fun e a w h => by
  cases e <;> first | exact h | exact (h : False).elim
theorem take_at {i : Nat} {oi : Oper} {d : Option Tmp} {v : Value} {fuel : Nat} {listed : Array Bool} {a : Act} {w : World} (hi : ops[i]? = some oi) (hd : oi.dst = d)
    (hs : Region.noSelect ops = true) (hf : Region.free md ops listed i = true) (hr : (Region.ready md ops listed).contains i = true)
    (hQ : ∀ c a w, Q (.panic c) (a.put oi.dst v) w → Q (.panic c) a w) (hy : YieldsIf P ops S oi v a) (hS : S w)
    (h : wpAnyH P md ops Q S fuel (listed.setIfInBounds i true) (a.put d v) w) : wpAnyH P md ops Q S (fuel + 1) listed a w :=
  wpAnyH_take hi hs hf hr hQ hy hS (hd ▸ h)
theorem step_at {i : Nat} {o : Oper} {fuel : Nat} {listed : Array Bool} {a : Act} {w : World} (hr : Region.ready md ops listed = [i]) (ho : ops[i]? = some o)
    (h : ∀ K' : Act → World → Prop, Shut (∀ a w, S w → (S w → wpAnyH P md ops Q S fuel (listed.setIfInBounds i true) a w) → K' a w) → if Region.wanted o (yielded ops a.tmps) = true then Oper.wp P o a w K' Q else K' (a.put o.dst undef) w) : wpAnyH P md ops Q S (fuel + 1) listed a w :=
  wpAnyH_ready hr (by simp) (AllReadyH.cons ho h AllReadyH.nil)
theorem Calm.normal {Q : Exit → Act → World → Prop} {a : Act} {w : World} (h : Q .normal a w) : Calm Q .normal a w := h
theorem region_in_round {id : Nat} {a : Act} {w : World} (hm : P.follows .mixedOrders = true) (hnd : noDefer ops = true) (hS : S w.drew)
    (h : S w.drew → wpAnyH P .any ops (Calm Q) S ops.size (Array.replicate ops.size false) a w.drew) : (Code.region id ops true).wpIn (Fence.wide.inRound l) n P Q a w :=
  Code.wpIn_mono Calm.imp (wpIn_region_any hm (any_in_round hnd (fun ⟨_, _, h⟩ => h) _ _ _ _ (wpAny_of_held _ _ _ _ (h hS))))
end
end Go.Proofs.YtpaojgfmffkodaaGreat
/- Heaps as lists of pairs (value, number): what sifting up and down keeps. No program here. -/
namespace Go.Proofs.YtpaojgfmffkodaaGreat
set_option linter.unusedVariables false
set_option linter.unusedSimpArgs false
def hx (L : List (Int × Int)) (i : Nat) : Int := (L.getD i (0, 0)).1
def swapL (L : List (Int × Int)) (i k : Nat) : List (Int × Int) := (L.set i (L.getD k (0, 0))).set k (L.getD i (0, 0))
theorem hx_at {L : List (Int × Int)} {i : Nat} (h : i < L.length) : hx L i = L[i].1 := by
  unfold hx; rw [List.getD_eq_getElem?_getD, List.getElem?_eq_getElem h, Option.getD_some]
theorem hx_set (L : List (Int × Int)) (i : Nat) (e : Int × Int) (j : Nat) (hi : i < L.length) : hx (L.set i e) j = if j = i then e.1 else hx L j := by
  unfold hx
  rw [List.getD_eq_getElem?_getD, List.getD_eq_getElem?_getD, List.getElem?_set]
  by_cases h : i = j
  · subst h; simp [hi]
  · rw [if_neg h, if_neg (by omega)]
theorem swapL_length (L : List (Int × Int)) (i k : Nat) : (swapL L i k).length = L.length := by simp [swapL]
theorem hx_swap {L : List (Int × Int)} {i k : Nat} (j : Nat) (hi : i < L.length) (hk : k < L.length) : hx (swapL L i k) j = if j = k then hx L i else if j = i then hx L k else hx L j := by
  unfold swapL
  rw [hx_set _ _ _ _ (by simpa using hk), hx_set _ _ _ _ hi]; rfl
theorem swapL_perm {L : List (Int × Int)} {i k : Nat} (hi : i < L.length) (hk : k < L.length) : (swapL L i k).Perm L := by
  unfold swapL
  rw [List.getD_eq_getElem?_getD, List.getElem?_eq_getElem hk, Option.getD_some, List.getD_eq_getElem?_getD, List.getElem?_eq_getElem hi, Option.getD_some]
  exact List.set_set_perm hi hk
def HeapOrd (L : List (Int × Int)) : Prop := ∀ j, 0 < j → j < L.length → hx L ((j - 1) / 2) ≤ hx L j
structure HeapUp (L : List (Int × Int)) (i : Nat) : Prop where
  ord : ∀ j, 0 < j → j < L.length → j ≠ i → hx L ((j - 1) / 2) ≤ hx L j
  kids : ∀ j, 0 < j → j < L.length → (j - 1) / 2 = i → 0 < i → hx L ((i - 1) / 2) ≤ hx L j
theorem HeapUp.done {L : List (Int × Int)} {i : Nat} (h : HeapUp L i) (hi : i = 0 ∨ hx L ((i - 1) / 2) ≤ hx L i) : HeapOrd L := by
  intro j h0 hj
  by_cases e : j = i
  · subst e
    rcases hi with hi | hi
    · omega
    · exact hi
  · exact h.ord j h0 hj e
theorem HeapUp.swap {L : List (Int × Int)} {i : Nat} (h : HeapUp L i) (h0 : 0 < i) (hi : i < L.length) (hle : hx L i ≤ hx L ((i - 1) / 2)) : HeapUp (swapL L i ((i - 1) / 2)) ((i - 1) / 2) := by
  obtain ⟨u, hu⟩ : ∃ u, (i - 1) / 2 = u := ⟨_, rfl⟩
  rw [hu] at hle ⊢
  have hui : u < i := by omega
  have hul : u < L.length := by omega
  constructor
  · intro j j0 hj hju
    rw [swapL_length] at hj
    rw [hx_swap _ hi hul, hx_swap _ hi hul]
    by_cases e : j = i
    · subst e
      rw [hu, if_pos rfl, if_neg (by omega), if_pos rfl]
      exact hle
    · rw [if_neg hju, if_neg e]
      have ho := h.ord j j0 hj e
      by_cases e1 : (j - 1) / 2 = u
      · rw [if_pos e1]; rw [e1] at ho; omega
      · rw [if_neg e1]
        by_cases e2 : (j - 1) / 2 = i
        · rw [if_pos e2]
          have := h.kids j j0 hj e2 h0
          rwa [hu] at this
        · rw [if_neg e2]; exact ho
  · intro j j0 hj hju u0
    rw [swapL_length] at hj
    rw [hx_swap _ hi hul, hx_swap _ hi hul, if_neg (by omega), if_neg (by omega), if_neg (by omega)]
    have hou := h.ord u u0 hul (by omega)
    by_cases e : j = i
    · rw [if_pos e]; exact hou
    · rw [if_neg e]
      have := h.ord j j0 hj e
      rw [hju] at this
      omega
theorem HeapUp.start {L : List (Int × Int)} (h : HeapOrd L) (e : Int × Int) : HeapUp (L ++ [e]) L.length := by
  have ha : ∀ j, j < L.length → hx (L ++ [e]) j = hx L j := fun j hj => by
    unfold hx; rw [List.getD_eq_getElem?_getD, List.getD_eq_getElem?_getD, List.getElem?_append_left hj]
  constructor
  · intro j j0 hj hne
    simp at hj
    rw [ha _ (by omega), ha _ (by omega)]
    exact h j j0 (by omega)
  · intro j j0 hj hk
    simp at hj
    omega
structure HeapDown (L : List (Int × Int)) (i : Nat) : Prop where
  ord : ∀ j, 0 < j → j < L.length → (j - 1) / 2 ≠ i → hx L ((j - 1) / 2) ≤ hx L j
  kids : ∀ j, 0 < j → j < L.length → (j - 1) / 2 = i → 0 < i → hx L ((i - 1) / 2) ≤ hx L j
theorem HeapDown.done {L : List (Int × Int)} {i : Nat} (h : HeapDown L i) (hi : ∀ j, 0 < j → j < L.length → (j - 1) / 2 = i → hx L i ≤ hx L j) : HeapOrd L := by
  intro j h0 hj
  by_cases e : (j - 1) / 2 = i
  · rw [e]; exact hi j h0 hj e
  · exact h.ord j h0 hj e
theorem HeapDown.swap {L : List (Int × Int)} {i b : Nat} (h : HeapDown L i) (hb0 : 0 < b) (hb : b < L.length) (hbi : (b - 1) / 2 = i) (hbest : ∀ j, 0 < j → j < L.length → (j - 1) / 2 = i → hx L b ≤ hx L j) (hle : hx L b ≤ hx L i) : HeapDown (swapL L i b) b := by
  have hil : i < L.length := by omega
  constructor
  · intro j j0 hj hne
    rw [swapL_length] at hj
    rw [hx_swap _ hil hb, hx_swap _ hil hb, if_neg hne]
    by_cases e : (j - 1) / 2 = i
    · rw [if_pos e]
      by_cases e2 : j = b
      · rw [if_pos e2]; exact hle
      · rw [if_neg e2, if_neg (by omega)]; exact hbest j j0 hj e
    · rw [if_neg e, if_neg (by intro e2; subst e2; exact e hbi)]
      have ho := h.ord j j0 hj e
      by_cases e3 : j = i
      · subst e3
        rw [if_pos rfl]
        exact h.kids b hb0 hb hbi j0
      · rw [if_neg e3]; exact ho
  · intro j j0 hj hjb hb0'
    rw [swapL_length] at hj
    rw [hx_swap _ hil hb, hx_swap _ hil hb, hbi, if_neg (by omega), if_pos rfl, if_neg (by omega), if_neg (by omega)]
    have := h.ord j j0 hj (by omega)
    rwa [hjb] at this
theorem HeapDown.start {L : List (Int × Int)} (h : HeapOrd L) (hn : 0 < L.length) : HeapDown ((L.set 0 (L.getD (L.length - 1) (0, 0))).take (L.length - 1)) 0 := by
  have ha : ∀ j, j < L.length - 1 → hx ((L.set 0 (L.getD (L.length - 1) (0, 0))).take (L.length - 1)) j = if j = 0 then hx L (L.length - 1) else hx L j := fun j hj => by
    have h1 := hx_set L 0 (L.getD (L.length - 1) (0, 0)) j hn
    rw [show (L.getD (L.length - 1) (0, 0)).1 = hx L (L.length - 1) from rfl] at h1
    rw [← h1]
    unfold hx; rw [List.getD_eq_getElem?_getD, List.getD_eq_getElem?_getD (l := L.set 0 _) (i := j), List.getElem?_take, if_pos hj]
  constructor
  · intro j j0 hj hne
    simp at hj
    rw [ha _ (by omega), ha _ (by omega), if_neg hne, if_neg (by omega)]
    exact h j j0 (by omega)
  · intro j j0 hj _ h0; omega
theorem HeapOrd.least {L : List (Int × Int)} (h : HeapOrd L) : ∀ n j, j ≤ n → j < L.length → hx L 0 ≤ hx L j
  | 0, j, hn, hj => by rw [show j = 0 by omega]; exact Int.le_refl _
  | n + 1, j, hn, hj => by
    by_cases e : j = 0
    · rw [e]; exact Int.le_refl _
    · exact Int.le_trans (HeapOrd.least h n ((j - 1) / 2) (by omega) (by omega)) (h j (by omega) hj)
theorem HeapOrd.nil : HeapOrd [] := fun j _ h => by simp at h
def Drains (L : List (Int × Int)) (xs : List Int) : Prop := xs.Pairwise (· ≤ ·) ∧ xs.Perm (L.map (·.1))
theorem Drains.nil {xs : List Int} (h : Drains [] xs) : xs = [] := by
  have := h.2.length_eq; simp at this; exact this
theorem map_hx {L : List (Int × Int)} {x : Int} (hx1 : x ∈ L.map (·.1)) : ∃ j, j < L.length ∧ hx L j = x := by
  obtain ⟨p, hp, rfl⟩ := List.mem_map.1 hx1
  obtain ⟨j, hj, rfl⟩ := List.mem_iff_getElem.1 hp
  exact ⟨j, hj, hx_at hj⟩
theorem take_perm {L : List (Int × Int)} (hn : 0 < L.length) : (L.getD 0 (0, 0) :: (L.set 0 (L.getD (L.length - 1) (0, 0))).take (L.length - 1)).Perm L := by
  cases L with
  | nil => simp at hn
  | cons a r =>
    show (a :: _).Perm (a :: r)
    refine List.Perm.cons a ?_
    rcases List.eq_nil_or_concat r with rfl | ⟨q, b, rfl⟩
    · simp
    · have e : ((a :: (q ++ [b])).getD ((a :: (q ++ [b])).length - 1) (0, 0)) = b := by simp [List.getD_eq_getElem?_getD]
      rw [List.concat_eq_append, e]
      have e2 : (((a :: (q ++ [b])).set 0 b).take ((a :: (q ++ [b])).length - 1)) = b :: q := by simp
      rw [e2]
      exact (List.perm_append_singleton b q).symm
theorem Drains.step {L L' : List (Int × Int)} {xs : List Int} (h : Drains L xs) (ho : HeapOrd L) (hn : 0 < L.length) (hp : (L.getD 0 (0, 0) :: L').Perm L) : ∃ r, xs = hx L 0 :: r ∧ Drains L' r := by
  obtain ⟨hs, hperm⟩ := h
  have hp2 : xs.Perm (hx L 0 :: L'.map (·.1)) := hperm.trans ((hp.map (·.1)).symm)
  cases xs with
  | nil => have := hp2.length_eq; simp at this
  | cons y r =>
    have hy : y = hx L 0 := by
      have h1 : hx L 0 ≤ y := by
        obtain ⟨j, hj, e⟩ := map_hx (hperm.subset (List.mem_cons_self (a := y) (l := r)))
        rw [← e]; exact ho.least _ j (Nat.le_refl _) hj
      have h2 : y ≤ hx L 0 := by
        have hm : hx L 0 ∈ y :: r := hp2.symm.subset List.mem_cons_self
        rcases List.mem_cons.1 hm with e | hm
        · omega
        · exact (List.pairwise_cons.1 hs).1 _ hm
      omega
    subst hy
    exact ⟨r, rfl, (List.pairwise_cons.1 hs).2, (List.Perm.cons_inv hp2)⟩
end Go.Proofs.YtpaojgfmffkodaaGreat
/- The heap of times: ahead, New, Len. -/
namespace Go.Proofs.YtpaojgfmffkodaaGreat
set_option linter.unusedVariables false
set_option linter.unusedSimpArgs false
open Go.RowKit
attribute [local go_sem ↓] Go.wp_at_zero Go.wp_at_succ
abbrev lessF : Value := .func (.func 158) #[] #[]
theorem hless_any (a b : Int) (w : World) : Gives Tryz.prog 158 #[.int .i64 a, .int .i64 b] w (.bool (decide (a < b))) := by
  apply Gives.ret
  go_enter Tryz.func158, Tryz.ntmps158
  go_wp2_with fail
  go_returns
  exact ⟨rfl, Lx⟩
structure HeapC (w : World) (g : Nat) (A : Option Addr) (n c : Nat) (next : Int) : Prop where
  c0 : w.cell? ⟨g, 0, none⟩ = some lessF
  c1 : w.cell? ⟨g, 1, none⟩ = some (.slice A n c)
  c2 : w.cell? ⟨g, 2, none⟩ = some (.int .i64 next)
  f1 : w.frozen? ⟨g, 1, none⟩ = false
  f2 : w.frozen? ⟨g, 2, none⟩ = false
  there : Nonempty (Old w g)
structure EntryAt (w : World) (g : Nat) (a b : Int) : Prop where
  c0 : w.cell? ⟨g, 0, none⟩ = some (.int .i64 a)
  c1 : w.cell? ⟨g, 1, none⟩ = some (.int .i64 b)
  there : Nonempty (Old w g)
def aheadB (a b : Int × Int) : Bool := if a.2 < b.2 then !decide (b.1 < a.1) else decide (a.1 < b.1)
theorem aheadB_yes {a b : Int × Int} (h : aheadB a b = true) : a.1 ≤ b.1 := by
  unfold aheadB at h; split at h <;> simp at h <;> omega
theorem aheadB_no {a b : Int × Int} (h : aheadB a b = false) : b.1 ≤ a.1 := by
  unfold aheadB at h; split at h <;> simp at h <;> omega
set_option maxRecDepth 100000 in
set_option maxHeartbeats 1000000 in
theorem ahead_any (g : Nat) (A : Option Addr) (c : Nat) (next : Int) (L : List (Int × Int)) (i k : Nat) (hi : i < L.length) (hk : k < L.length) (hL : L.length < 4611686018427387904) (w : World) (h : HeapC w g A L.length c next) (hr : IsRow encV 2 w A c L) :
    Gives Tryz.prog 172 #[.pointer (some ⟨g, 0, none⟩), .int .i64 i, .int .i64 k] w (.bool (aheadB L[i] L[k])) := by
  apply Gives.ret
  obtain ⟨c0, c1, c2, f1, f2, hO⟩ := h
  obtain ⟨gr, off, rfl, hrr⟩ := hr.at_ (by omega)
  have hOr := hrr.there
  have a0 := hrr.v0 i hi
  have a1 := hrr.v1 i hi
  have b0 := hrr.v0 k hk
  have b1 := hrr.v1 k hk
  have HL := fun (a b : Int) W => hless_any a b W
  obtain ⟨⟨ax, an⟩, ha⟩ : ∃ q, q = L[i] := ⟨_, rfl⟩
  obtain ⟨⟨bx, bn⟩, hb⟩ : ∃ q, q = L[k] := ⟨_, rfl⟩
  rw [← ha] at a0 a1
  rw [← hb] at b0 b1
  rw [← ha, ← hb]
  have e : aheadB (ax, an) (bx, bn) = if an < bn then !decide (bx < ax) else decide (ax < bx) := rfl
  obtain ⟨res, hres⟩ : ∃ v, v = aheadB (ax, an) (bx, bn) := ⟨_, rfl⟩
  rw [← hres]
  rw [e] at hres
  have HR := Lib.hid hres
  simp only at a0 a1 b0 b1
  clear hrr hr ha hb e f1 f2 hres
  go_enter Tryz.func172, Tryz.ntmps172
  go_upto_region 1 with fail
  go_cut [7, 8] (fun s7 s8 wx => ∃ g7 g8 : Nat, s7 = .pointer (some ⟨g7, 0, none⟩) ∧ s8 = .pointer (some ⟨g8, 0, none⟩) ∧ EntryAt wx g7 ax an ∧ EntryAt wx g8 bx bn ∧ LaterOf w wx)
  case first =>
    go_region_held3 (fun w' => w'.cell? ⟨g, 1, none⟩ = some (.slice (some ⟨gr, off, none⟩) L.length c) ∧ w'.cell? ⟨gr, off + i * 2, none⟩ = some (.int .i64 ax) ∧ w'.cell? ⟨gr, off + i * 2 + 1, none⟩ = some (.int .i64 an) ∧ w'.cell? ⟨gr, off + k * 2, none⟩ = some (.int .i64 bx) ∧ w'.cell? ⟨gr, off + k * 2 + 1, none⟩ = some (.int .i64 bn)) ((simp [go_sem, *])) (fail)
    all_goals
      go_wp2_with fail
      go_meet
      exact ⟨_, _, rfl, rfl, ⟨by simp [go_sem], by simp [go_sem], inferInstance⟩, ⟨by simp [go_sem], by simp [go_sem], inferInstance⟩, Lx⟩
  case rest =>
    obtain ⟨g7, g8, rfl, rfl, ⟨d0, d1, hO7⟩, ⟨e0, e1, hO8⟩, ⟨z, rfl⟩⟩ := hcut
    clear a0 a1 b0 b1
    by_cases hlt : an < bn
    · go_wp2_with fail
      refine region_later (by kernel_rfl) (by kernel_rfl) ?_
      repeat (go_big_quiet_step ((with_reducible refine Gives.later (HL bx ax _))))
      refine wpQuiet_nil ?_
      rintro _ ⟨x2, rfl⟩
      go_wp2_with fail
      go_returns
      exact ⟨by rw [HR.out, if_pos hlt]; rfl, Lx⟩
    · go_wp2_with fail
      refine region_later (by kernel_rfl) (by kernel_rfl) ?_
      repeat (go_big_quiet_step ((with_reducible refine Gives.later (HL ax bx _))))
      refine wpQuiet_nil ?_
      rintro _ ⟨x2, rfl⟩
      go_wp2_with fail
      go_returns
      exact ⟨by rw [HR.out, if_neg (by omega)]; rfl, Lx⟩
end Go.Proofs.YtpaojgfmffkodaaGreat
/- The heap of times: Push. -/
namespace Go.Proofs.YtpaojgfmffkodaaGreat
set_option linter.unusedVariables false
set_option linter.unusedSimpArgs false
open Go.RowKit
attribute [local go_sem ↓] Go.wp_at_zero Go.wp_at_succ
theorem infoEntry : (Tryz.prog.info? 230).map (fun i => (i.zero, i.size, i.bytes)) = some (some (.agg #[.int .i64 0, .int .i64 0]), 2, 16) := by kernel_rfl
abbrev OwnsE (B : Nat) (w : World) (A : Option Addr) (c : Nat) (L : List (Int × Int)) : Prop := Owns encV 2 B 230 w A c L
def HeapIs (w : World) (B g : Nat) (L : List (Int × Int)) (next : Int) : Prop := ∃ A c, HeapC w g A L.length c next ∧ OwnsE B w A c L ∧ B ≤ g ∧ blockOf A ≠ some g
theorem Owns.setV {base : Nat} {e : TypeId} {w : World} {c g : Nat} {l : List (Int × Int)} (h : Owns encV 2 base e w (some ⟨g, 0, none⟩) c l) (i : Nat) (hi : i < l.length) (x y : Int) :
    Owns encV 2 base e ((w.setCell ⟨g, i * 2, none⟩ (.int .i64 x)).setCell ⟨g, i * 2 + 1, none⟩ (.int .i64 y)) (some ⟨g, 0, none⟩) c (l.set i (x, y)) := by
  obtain ⟨h1, -⟩ := World.ownsRow.stored h (i * 2) (.int .i64 x)
  obtain ⟨h2, -⟩ := World.ownsRow.stored h1 (i * 2 + 1) (.int .i64 y)
  unfold Owns
  rw [List.length_set]
  have e1 : ((l.flatMap encV).set (i * 2) (.int .i64 x)).set (i * 2 + 1) (.int .i64 y) = (l.set i (x, y)).flatMap encV := by
    apply List.ext_getElem?
    intro j
    have hfl := flat_length encV_len l
    by_cases hj : j < l.length * 2
    · have hj2 : j / 2 < l.length := by omega
      have hm : j % 2 < 2 := Nat.mod_lt _ (by omega)
      have hb := flat_get encV_len (l.set i (x, y)) (j / 2) (by rw [List.length_set]; exact hj2) (j % 2) hm
      have ha := flat_get encV_len l (j / 2) hj2 (j % 2) hm
      rw [show j / 2 * 2 + j % 2 = j from by omega] at ha hb
      rw [hb, List.getElem?_set, List.getElem?_set]
      by_cases e : i * 2 + 1 = j
      · subst e
        rw [if_pos rfl, List.length_set, if_pos (by omega)]
        simp only [show (i * 2 + 1) / 2 = i from by omega, show (i * 2 + 1) % 2 = 1 from by omega, List.getElem_set_self]; rfl
      · rw [if_neg e]
        by_cases e2 : i * 2 = j
        · subst e2
          rw [if_pos rfl, if_pos (by omega)]
          simp only [show (i * 2) / 2 = i from by omega, show (i * 2) % 2 = 0 from by omega, List.getElem_set_self]; rfl
        · rw [if_neg e2, ha, List.getElem_set_ne (by omega)]
    · rw [List.getElem?_eq_none (by rw [List.length_set, List.length_set, hfl]; omega), List.getElem?_eq_none (by rw [flat_length encV_len, List.length_set]; omega)]
  rw [← e1]
  exact h2
theorem Owns.setCell_other {α : Type} {enc : α → List Value} {k base : Nat} {e : TypeId} {w : World} {A : Option Addr} {c : Nat} {l : List α} (h : Owns enc k base e w A c l) {p : Addr} (hp : blockOf A ≠ some p.block) (u : Value) : Owns enc k base e (w.setCell p u) A c l :=
  h.kept (grownBy_setCell (p := p) rfl u) (.inr hp)
theorem Owns.drew {α : Type} {enc : α → List Value} {k base : Nat} {e : TypeId} {w : World} {A : Option Addr} {c : Nat} {l : List α} (h : Owns enc k base e w A c l) : Owns enc k base e w.drew A c l := h.of ((SinceOf.refl _).drew)
theorem erow_one (W : World) (x y : Int) (t : TypeId) : RowAt encV 2 (W.alloc (.cells #[.int .i64 x, .int .i64 y] t)) W.heap.size 0 [(x, y)] := by
  refine ⟨fun i hi j u hu => ?_, inferInstance⟩
  obtain rfl : i = 0 := by simpa using hi
  match j, hu with
  | 0, hu => simp [encV] at hu; subst hu; simp
  | 1, hu => simp [encV] at hu; subst hu; simp
  | j + 2, hu => simp [encV] at hu
theorem HeapC.setRow {w w' : World} {g gr : Nat} {A : Option Addr} {n c : Nat} {next : Int} (h : HeapC w g A n c next) (hg : w.grownBy w' (some gr)) (hne : g ≠ gr) : HeapC w' g A n c next := by
  obtain ⟨c0, c1, c2, f1, f2, hO⟩ := h
  have hlt := hO.elim fun q => q.lt
  have hb : w'.heap[g]? = w.heap[g]? := hg.block g hlt (by simpa using hne)
  exact ⟨(World.cell?_of_block hb).trans c0, (World.cell?_of_block hb).trans c1, (World.cell?_of_block hb).trans c2, (World.frozen?_of_block hb).trans f1, (World.frozen?_of_block hb).trans f2, ⟨⟨Nat.lt_of_lt_of_le hlt hg.size⟩⟩⟩
theorem HeapC.setSlice {w : World} {g : Nat} {A : Option Addr} {n n' c : Nat} {next : Int} (h : HeapC w g A n c next) (A' : Option Addr) (c' : Nat) : HeapC (w.setCell ⟨g, 1, none⟩ (.slice A' n' c')) g A' n' c' next := by
  obtain ⟨c0, c1, c2, f1, f2, hO⟩ := h
  exact ⟨(World.cell?_setCell_other _ _ _ _ (by simp)).trans c0, World.cell?_setCell_same _ _ _ c1, (World.cell?_setCell_other _ _ _ _ (by simp)).trans c2, by simpa using f1, by simpa using f2, inferInstance⟩
theorem HeapC.setNext {w : World} {g : Nat} {A : Option Addr} {n c : Nat} {next : Int} (h : HeapC w g A n c next) (next' : Int) : HeapC (w.setCell ⟨g, 2, none⟩ (.int .i64 next')) g A n c next' := by
  obtain ⟨c0, c1, c2, f1, f2, hO⟩ := h
  exact ⟨(World.cell?_setCell_other _ _ _ _ (by simp)).trans c0, (World.cell?_setCell_other _ _ _ _ (by simp)).trans c1, World.cell?_setCell_same _ _ _ c2, by simpa using f1, by simpa using f2, inferInstance⟩
theorem HeapC.of {w w' : World} {g : Nat} {A : Option Addr} {n c : Nat} {next : Int} (h : HeapC w g A n c next) (hs : SinceOf w w') : HeapC w' g A n c next := by
  obtain ⟨c0, c1, c2, f1, f2, hO⟩ := h
  obtain ⟨z, rfl⟩ := hs
  exact ⟨by rw [Since.cell]; exact c0, by rw [Since.cell]; exact c1, by rw [Since.cell]; exact c2, by rw [Since.frozen]; exact f1, by rw [Since.frozen]; exact f2, inferInstance⟩
set_option maxRecDepth 100000 in
set_option maxHeartbeats 4000000 in
theorem push_any (B g : Nat) (L : List (Int × Int)) (next x : Int) (w : World) (h : HeapIs w B g L next) (hord : HeapOrd L) (hL : L.length < 1099511627776) (hn0 : 0 ≤ next) (hn1 : next < 1099511627776) :
    Calls Tryz.prog 159 #[.pointer (some ⟨g, 0, none⟩), .int .i64 x] w fun e w' => e = .returned (.tuple #[]) ∧ ∃ L', HeapIs w' B g L' (next + 1) ∧ HeapOrd L' ∧ L'.Perm ((x, next) :: L) ∧ Below B w w' := by
  obtain ⟨A, c, hc, ho, hBg, hAg⟩ := h
  obtain ⟨i0, hi, hz0, hz1, hz2⟩ := info_parts infoEntry
  have HI := Lib.hid (And.intro hi (And.intro hz0 (And.intro hz1 hz2)))
  have hglt := hc.there.elim fun q => q.lt
  obtain ⟨c0, c1, c2, f1, f2, hO⟩ := hc
  have HH := Lib.hid (And.intro ho hord)
  clear hi hz0 hz1 hz2 ho hord
  go_enter Tryz.func159, Tryz.ntmps159
  go_upto_region 1 with fail
  go_cut [] (fun wx => ∃ (A' : Option Addr) (c' : Nat), HeapC wx g A' (L ++ [(x, next)]).length c' next ∧ OwnsE B wx A' c' (L ++ [(x, next)]) ∧ Below B w wx ∧ blockOf A' ≠ some g)
  case first =>
    obtain ⟨hi, hz0, hz1, hz2⟩ := HI.out
    go_region_law ((refine step_append_row rfl (.tmp 12) (.tmp 19) 226 rfl encV_len (by omega) encV_one i0 _ 16 Tryz.underlying226 hi hz0 hz1 hz2 rfl (l := L) (A := A) (c := c) (base := B) ?hs ?own (m := [(x, next)]) rfl ?hm ?h63 ?hby ?hbase ?_
                    case hs => simp [Act.eval]
                    case own => exact HH.out.1.of Sx
                    case hm => exact ⟨(by intro h; cases h), .inr ⟨_, _, rfl, (erow_one w x next _).of Sx⟩⟩
                    case h63 => unfold maxLen; simp; omega
                    case hby => simp; omega
                    case hbase => simp; omega
                    intro A1 c3 w1 hown1 hgrow1 hb1
                    have hgb : w1.heap[g]? = w.heap[g]? := (hgrow1.block g (by simp; omega) (fun e => hAg e.symm)).trans (Below.heap_alloc w _ g hglt)
                    have k0 : w1.cell? ⟨g, 0, none⟩ = some lessF := (World.cell?_of_block hgb).trans c0
                    have k1 : w1.cell? ⟨g, 1, none⟩ = some (.slice A L.length c) := (World.cell?_of_block hgb).trans c1
                    have k2 : w1.cell? ⟨g, 2, none⟩ = some (.int .i64 next) := (World.cell?_of_block hgb).trans c2
                    have j1 : w1.frozen? ⟨g, 1, none⟩ = false := (World.frozen?_of_block hgb).trans f1
                    have j2 : w1.frozen? ⟨g, 2, none⟩ = false := (World.frozen?_of_block hgb).trans f2
                    clear hgb))
    all_goals go_wp2_with fail
    all_goals go_meet
    all_goals
      have hbw : Below B w w1 := (((((Below.refl B w).alloc (by omega) _).drew).grown hgrow1 (by simp; omega) (fun q hq => by have := (HH.out.1.below q hq).1; omega)))
      have hA1 : blockOf A1 ≠ some g := by
        intro e
        rcases hb1 with h | h
        · rw [h] at e; exact hAg e
        · rw [h] at e; simp at e; omega
      refine ⟨A1, c3, ?_, hown1.setCell_other hA1 _, hbw.setCell hBg _, hA1⟩
      have := HeapC.setSlice (n' := (L ++ [(x, next)]).length) ⟨k0, k1, k2, j1, j2, ⟨⟨Nat.lt_of_lt_of_le hglt hbw.size⟩⟩⟩ A1 c3
      simpa using this
  case rest =>
    obtain ⟨A2, c3, hc2, ho2, hb2, hA2⟩ := hcut
    clear c0 c1 c2 f1 f2
    obtain ⟨gr, e2, hgr, -⟩ := ho2.live encV_len (by simp)
    subst e2
    have hgn : gr ≠ g := fun e => hA2 (by rw [e]; rfl)
    obtain ⟨c0, c1, c2, f1, f2, hO1⟩ := hc2
    have hl1 : (L ++ [(x, next)]).length = L.length + 1 := by simp
    have H2 := Lib.hid (And.intro ho2 hb2)
    rw [hl1] at c1
    clear hl1 ho2 hb2
    go_upto_region 4 with fail
    go_loopg [4] (L.length + 1) (fun gas s4 wr => ∃ (i : Nat) (L2 : List (Int × Int)), s4 = .int .i64 i ∧ i ≤ gas ∧ L2.length = L.length + 1 ∧ i < L2.length ∧ HeapC wr g (some ⟨gr, 0, none⟩) (L.length + 1) c3 (next + 1) ∧ OwnsE B wr (some ⟨gr, 0, none⟩) c3 L2 ∧ HeapUp L2 i ∧ L2.Perm ((x, next) :: L) ∧ Below B w wr)
    case atStart =>
      refine ⟨L.length, L ++ [(x, next)], rfl, by omega, by simp, by simp, HeapC.setNext ⟨c0, c1, c2, f1, f2, hO1⟩ _, H2.out.1.setCell_other hA2 _, HeapUp.start HH.out.2 _, List.perm_append_singleton _ _, H2.out.2.setCell hBg _⟩
    case round =>
      clear c0 c1 c2 f1 f2 H2
      obtain ⟨i, L2, rfl, hgas, hl2, hil, hc3, ho3, hup, hperm, hbel⟩ := hrel
      obtain ⟨ws, rfl⟩ : ∃ ws, ws = wr := ⟨_, rfl⟩
      by_cases h0 : 0 < i
      · obtain ⟨u, hu⟩ : ∃ u, u = (i - 1) / 2 := ⟨_, rfl⟩
        have hul : u < L2.length := by omega
        have hne : i ≠ u := by omega
        have hib : i < 1099511627777 := by omega
        have hub : (u : Int) ≤ i := by omega
        have hi1 : i < L.length + 1 := by omega
        have hu1 : u < L.length + 1 := by omega
        have AH := fun W (hW : SinceOf ws W) => ahead_any g (some ⟨gr, 0, none⟩) c3 (next + 1) L2 i u hil hul (by omega) W (by rw [hl2]; exact hc3.of hW) ((ho3.isRow encV_len).of hW)
        have hup1 := fun (e : aheadB L2[i] L2[u] = true) => (by have := hup.swap h0 hil (by rw [← hu, hx_at hil, hx_at hul]; exact aheadB_yes e); rw [← hu] at this; exact this : HeapUp (swapL L2 i u) u)
        have hup2 := fun (e : aheadB L2[i] L2[u] = false) => (hup.done (.inr (by rw [← hu, hx_at hil, hx_at hul]; exact aheadB_no e)) : HeapOrd L2)
        have hsp := (swapL_perm hil hul).trans hperm
        have hsl := swapL_length L2 i u
        have hsw : swapL L2 i u = (L2.set i L2[u]).set u L2[i] := by unfold swapL; rw [List.getD_eq_getElem?_getD, List.getElem?_eq_getElem hul, Option.getD_some, List.getD_eq_getElem?_getD, List.getElem?_eq_getElem hil, Option.getD_some]
        have hsw2 : swapL L2 i u = (L2.set u L2[i]).set i L2[u] := by rw [hsw, List.set_comm _ _ hne]
        have hlv := (ho3.live encV_len (by omega))
        obtain ⟨gq, eq1, -, hlv⟩ := hlv
        simp only [Option.some.injEq, Addr.mk.injEq, and_true] at eq1
        subst eq1
        have hOr := hlv.row.there
        have i0' := hlv.row.v0 i hil
        have i1' := hlv.row.v1 i hil
        have u0' := hlv.row.v0 u hul
        have u1' := hlv.row.v1 u hul
        have fi0 := hlv.free (i * 2) (by omega)
        have fi1 := hlv.free (i * 2 + 1) (by omega)
        have fu0 := hlv.free (u * 2) (by omega)
        have fu1 := hlv.free (u * 2 + 1) (by omega)
        simp only [Nat.zero_add] at i0' i1' u0' u1' fi0 fi1 fu0 fu1
        have hap : Nonempty (Apart g gr) := ⟨⟨by omega⟩⟩
        have hui : u < i := by omega
        have HU := Lib.hid (show ((i : Int) - 1) / 2 = (u : Int) by omega)
        have S1 := fun W (hW : SinceOf ws W) => ((ho3.of hW).setV i hil L2[u].1 L2[u].2).setV u (by simpa using hul) L2[i].1 L2[i].2
        have S2 := fun W (hW : SinceOf ws W) => ((ho3.of hW).setV u hul L2[i].1 L2[i].2).setV i (by simpa using hil) L2[u].1 L2[u].2
        obtain ⟨⟨ix, im⟩, hi'⟩ : ∃ q, q = L2[i] := ⟨_, rfl⟩
        obtain ⟨⟨ux, um⟩, hu'⟩ : ∃ q, q = L2[u] := ⟨_, rfl⟩
        rw [← hi', ← hu'] at AH hup1 hup2
        rw [← hi', ← hu'] at hsw hsw2 S1 S2
        rw [← hi'] at i0' i1'
        rw [← hu'] at u0' u1'
        simp only at i0' i1' u0' u1' S1 S2
        have HS := Lib.hid (And.intro S1 S2)
        have HK := Lib.hid (And.intro hc3 (And.intro hbel (And.intro hup1 (And.intro hup2 (And.intro hsp (And.intro hsl (And.intro hsw (And.intro hsw2 (And.intro hl2 (And.intro ho3 hperm))))))))))
        obtain ⟨c0, c1, c2, f1, f2, hO2⟩ := hc3
        clear hu S1 S2 hbel hup1 hup2 hsp hsl hsw hsw2 hl2 ho3 hup hperm hlv hi' hu'
        obtain ⟨b, hb⟩ : ∃ b, b = aheadB (ix, im) (ux, um) := ⟨_, rfl⟩
        rw [← hb] at AH
        have HB := Lib.hid hb
        clear hb
        cases b
        · go_wp2_with fail
          simp only [HU.out]
          (with_reducible refine (AH _ Sx).calls.mono ?_)
          rintro e _ ⟨rfl, x1, rfl⟩
          go_wp2_with fail
          go_returns
          exact ⟨rfl, L2, ⟨_, _, by rw [HK.out.2.2.2.2.2.2.2.2.1]; exact HK.out.1.of (LaterOf.since ⟨x1, rfl⟩), HK.out.2.2.2.2.2.2.2.2.2.1.of (LaterOf.since ⟨x1, rfl⟩), hBg, hA2⟩, HK.out.2.2.2.1 HB.out.symm, HK.out.2.2.2.2.2.2.2.2.2.2, HK.out.2.1.trans (x1.below.mono (by have := HK.out.2.1.size; omega))⟩
        · go_wp2_with fail
          simp only [HU.out]
          (with_reducible refine (AH _ Sx).calls.mono ?_)
          rintro e _ ⟨rfl, x1, rfl⟩
          go_upto_region 7 with fail
          go_cut [] (fun wx => HeapC wx g (some ⟨gr, 0, none⟩) (L.length + 1) c3 (next + 1) ∧ OwnsE B wx (some ⟨gr, 0, none⟩) c3 (swapL L2 i u) ∧ Below B w wx)
          case first =>
            go_big_region
            all_goals go_wp2_with fail
            all_goals go_meet
            all_goals
              have hg4 : x1.wd.grownBy _ (some gr) := (((grownBy_setCell (p := ⟨gr, i * 2, none⟩) rfl (.int .i64 ux)).trans (grownBy_setCell (p := ⟨gr, i * 2 + 1, none⟩) rfl (.int .i64 um))).trans (grownBy_setCell (p := ⟨gr, u * 2, none⟩) rfl (.int .i64 ix))).trans (grownBy_setCell (p := ⟨gr, u * 2 + 1, none⟩) rfl (.int .i64 im))
              have hcc := HK.out.1.of (LaterOf.since ⟨x1, rfl⟩)
              have hcc2 := HeapC.setRow hcc hg4 (by omega)
              refine ⟨hcc2.of ((SinceOf.refl _).drew), ?_, ?_⟩
              · have hs1 : OwnsE B _ (some ⟨gr, 0, none⟩) c3 _ := HS.out.1 x1.wd (LaterOf.since ⟨x1, rfl⟩)
                rw [← HK.out.2.2.2.2.2.2.1] at hs1
                exact hs1.drew
              · have hb9 := HK.out.2.1.trans (x1.below.mono (B' := B) (by have := HK.out.2.1.size; omega))
                exact (hb9.grown hg4 (by have := hb9.size; omega) (fun q e => by cases e; omega)).drew
          case rest =>
            obtain ⟨hc4, ho4, hb4⟩ := hcut
            have HM := Lib.hid (And.intro hc4 (And.intro ho4 hb4))
            clear hc4 ho4 hb4 c0 c1 c2 f1 f2 i0' i1' u0' u1' fi0 fi1 fu0 fu1
            go_wp2_with fail
            go_roundg u
            case measure => omega
            case rel => exact ⟨u, swapL L2 i u, (by first | rfl | (have := HU.out; congr 1; omega)), Nat.le_refl _, by rw [HK.out.2.2.2.2.2.1]; exact HK.out.2.2.2.2.2.2.2.2.1, by rw [HK.out.2.2.2.2.2.1]; exact hul, HM.out.1, HM.out.2.1, HK.out.2.2.1 HB.out.symm, HK.out.2.2.2.2.1, HM.out.2.2⟩
      · have hi0 : i = 0 := by omega
        have HE := Lib.hid (And.intro hc3 (And.intro ho3 (And.intro (hup.done (.inl hi0)) (And.intro hperm (And.intro hbel hl2)))))
        clear hc3 ho3 hup hperm hbel hl2
        subst hi0
        go_wp2_with fail
        go_returns
        exact ⟨rfl, L2, ⟨_, _, by rw [HE.out.2.2.2.2.2]; exact HE.out.1, HE.out.2.1, hBg, hA2⟩, HE.out.2.2.1, HE.out.2.2.2.1, HE.out.2.2.2.2.1⟩
end Go.Proofs.YtpaojgfmffkodaaGreat
/- The heap of times: Len, Pop. -/
namespace Go.Proofs.YtpaojgfmffkodaaGreat
set_option linter.unusedVariables false
set_option linter.unusedSimpArgs false
open Go.RowKit
attribute [local go_sem ↓] Go.wp_at_zero Go.wp_at_succ
theorem hlen_any (g : Nat) (A : Option Addr) (n c : Nat) (next : Int) (w : World) (h : HeapC w g A n c next) : Gives Tryz.prog 188 #[.pointer (some ⟨g, 0, none⟩)] w (.int .i64 n) := by
  apply Gives.ret
  obtain ⟨c0, c1, c2, f1, f2, hO⟩ := h
  go_enter Tryz.func188, Tryz.ntmps188
  go_wp2_with fail
  go_returns
  exact ⟨rfl, Lx⟩
set_option maxHeartbeats 1000000 in
theorem pop_none (B g : Nat) (next : Int) (w : World) (h : HeapIs w B g [] next) : Gives Tryz.prog 175 #[.pointer (some ⟨g, 0, none⟩)] w (.tuple #[.int .i64 0, .bool false]) := by
  apply Gives.ret
  obtain ⟨A, c, hc, ho, -, -⟩ := h
  have HL := fun W (hW : SinceOf w W) => hlen_any g A 0 c next W (hc.of hW)
  have hO := hc.there
  clear hc ho
  go_enter Tryz.func175, Tryz.ntmps175
  go_wp2_with fail
  refine (HL _ Sx).calls.mono ?_
  rintro e _ ⟨rfl, x1, rfl⟩
  go_wp2_with fail
  go_returns
  exact ⟨rfl, Lx⟩
theorem Owns.take {α : Type} {enc : α → List Value} {k base : Nat} {e : TypeId} {w : World} {A : Option Addr} {c : Nat} {l : List α} (hk : ∀ x, (enc x).length = k) (h : Owns enc k base e w A c l) (n : Nat) (hn : n ≤ l.length) (hA : A ≠ none) : Owns enc k base e w A c (l.take n) := by
  obtain ⟨h1, h2⟩ := h
  have hl : (l.take n).length = n := by rw [List.length_take]; omega
  refine ⟨by rw [flat_length hk], ?_⟩
  rcases h2 with ⟨h2, h3⟩ | ⟨g, cap, cur, hv, hb, hg, hnc, hm, hs, ht⟩
  · simp only [Value.slice.injEq] at h2; exact absurd h2.1 hA
  · simp only [Value.slice.injEq, true_and] at hv
    obtain ⟨rfl, rfl⟩ := hv
    refine .inr ⟨g, c, cur, by rw [hl], hb, hg, by rw [hl]; omega, hm, hs, ?_⟩
    rw [hl]
    apply List.ext_getElem?
    intro j
    by_cases hj : j < n * k
    · rw [List.getElem?_take, if_pos hj]
      have hk0 : 0 < k := by
        rcases Nat.eq_zero_or_pos k with h | h
        · rw [h, Nat.mul_zero] at hj; omega
        · exact h
      have hlt : j < l.length * k := Nat.lt_of_lt_of_le hj (Nat.mul_le_mul_right _ hn)
      have e1 : cur.toList[j]? = (l.flatMap enc)[j]? := by rw [← ht, List.getElem?_take, if_pos hlt]
      rw [e1]
      have hd : j / k < n := Nat.div_lt_of_lt_mul (by rw [Nat.mul_comm]; exact hj)
      have hm2 := Nat.mod_lt j hk0
      have h3 := flat_get hk l (j / k) (by omega) (j % k) hm2
      have h4 := flat_get hk (l.take n) (j / k) (by rw [hl]; exact hd) (j % k) hm2
      rw [Nat.mul_comm, Nat.div_add_mod] at h3 h4
      rw [h3, h4, List.getElem_take]
    · rw [List.getElem?_eq_none (by rw [List.length_take]; omega), List.getElem?_eq_none (by rw [flat_length hk, hl]; omega)]
def Kid (L : List (Int × Int)) (m k p : Nat) (b : Bool) : Prop := (b = true → k < m ∧ hx L k ≤ hx L p) ∧ (b = false → k < m → hx L p ≤ hx L k)
def Best1 (L : List (Int × Int)) (m i p : Nat) : Prop := (p = i ∧ (2 * i + 1 < m → hx L i ≤ hx L (2 * i + 1))) ∨ (p = 2 * i + 1 ∧ p < m ∧ hx L p ≤ hx L i)
def Best2 (L : List (Int × Int)) (m i q : Nat) : Prop := (q = i ∧ ∀ j, 0 < j → j < m → (j - 1) / 2 = i → hx L i ≤ hx L j) ∨ (i < q ∧ q < m ∧ (q - 1) / 2 = i ∧ hx L q ≤ hx L i ∧ ∀ j, 0 < j → j < m → (j - 1) / 2 = i → hx L q ≤ hx L j)
theorem best1_of {L : List (Int × Int)} {m i : Nat} {b : Bool} (h : Kid L m (2 * i + 1) i b) : Best1 L m i (if b = true then 2 * i + 1 else i) := by
  cases b
  · exact .inl ⟨rfl, h.2 rfl⟩
  · exact .inr ⟨rfl, (h.1 rfl).1, (h.1 rfl).2⟩
theorem best2_of {L : List (Int × Int)} {m i p : Nat} {b : Bool} (h1 : Best1 L m i p) (h : Kid L m (2 * i + 2) p b) : Best2 L m i (if b = true then 2 * i + 2 else p) := by
  have kid : ∀ j, 0 < j → (j - 1) / 2 = i → j = 2 * i + 1 ∨ j = 2 * i + 2 := by intro j _ _; omega
  cases b
  · rw [if_neg (by simp)]
    rcases h1 with ⟨rfl, h1⟩ | ⟨rfl, h1, h2⟩
    · refine .inl ⟨rfl, fun j j0 hj e => ?_⟩
      rcases kid j j0 e with rfl | rfl
      · exact h1 hj
      · exact h.2 rfl hj
    · refine .inr ⟨by omega, h1, by omega, h2, fun j j0 hj e => ?_⟩
      rcases kid j j0 e with rfl | rfl
      · exact Int.le_refl _
      · exact h.2 rfl hj
  · rw [if_pos rfl]
    obtain ⟨ha, hb⟩ := h.1 rfl
    rcases h1 with ⟨rfl, h1⟩ | ⟨rfl, h1, h2⟩
    · refine .inr ⟨by omega, ha, by omega, hb, fun j j0 hj e => ?_⟩
      rcases kid j j0 e with rfl | rfl
      · exact Int.le_trans hb (h1 hj)
      · exact Int.le_refl _
    · refine .inr ⟨by omega, ha, by omega, Int.le_trans hb h2, fun j j0 hj e => ?_⟩
      rcases kid j j0 e with rfl | rfl
      · exact hb
      · exact Int.le_refl _
theorem kid_of {L : List (Int × Int)} {m k p : Nat} (hL : L.length = m) (hk : k < m) (hp : p < m) : Kid L m k p (aheadB (L[k]'(by omega)) (L[p]'(by omega))) := by
  constructor
  · intro e
    refine ⟨hk, ?_⟩
    rw [hx_at (by omega), hx_at (by omega)]; exact aheadB_yes e
  · intro e _
    rw [hx_at (by omega), hx_at (by omega)]; exact aheadB_no e
theorem kid_no {L : List (Int × Int)} {m k p : Nat} (hk : ¬ k < m) : Kid L m k p false := ⟨fun h => by simp at h, fun _ h => absurd h hk⟩
set_option maxRecDepth 100000 in
set_option maxHeartbeats 8000000 in
theorem pop_some (B g : Nat) (L : List (Int × Int)) (next : Int) (w : World) (h : HeapIs w B g L next) (hord : HeapOrd L) (hL : L.length < 1099511627776) (hn : 0 < L.length) :
    Calls Tryz.prog 175 #[.pointer (some ⟨g, 0, none⟩)] w fun e w' => e = .returned (.tuple #[.int .i64 (hx L 0), .bool true]) ∧ ∃ L', HeapIs w' B g L' next ∧ HeapOrd L' ∧ (L.getD 0 (0, 0) :: L').Perm L ∧ Below B w w' := by
  obtain ⟨A, c, hc, ho, hBg, hAg⟩ := h
  obtain ⟨m, hm⟩ : ∃ m, L.length = m + 1 := ⟨L.length - 1, by omega⟩
  have HL := fun W (hW : SinceOf w W) => hlen_any g A L.length c next W (hc.of hW)
  have hglt := hc.there.elim fun q => q.lt
  have hcap := ho.le_cap
  obtain ⟨gr, e2, hgr, hlv⟩ := ho.live encV_len hn
  subst e2
  have hgn : gr ≠ g := fun e => hAg (by rw [e]; rfl)
  have hc' := hc
  obtain ⟨c0, c1, c2, f1, f2, hO⟩ := hc
  have hOr := hlv.row.there
  have hdn := HeapDown.start hord hn
  have htp := take_perm hn
  have hx0 : hx L 0 = L[0].1 := hx_at hn
  have hgl : L.getD (L.length - 1) (0, 0) = L[m] := by rw [List.getD_eq_getElem?_getD, List.getElem?_eq_getElem (by omega), Option.getD_some]; congr 1; omega
  rw [hgl, show L.length - 1 = m from by omega] at hdn htp
  have x0 := hlv.row.v0 0 hn
  have y0 := hlv.row.v1 0 hn
  have xm := hlv.row.v0 m (by omega)
  have ym := hlv.row.v1 m (by omega)
  have fx0 := hlv.free 0 (by omega)
  have fy0 := hlv.free 1 (by omega)
  simp only [Nat.zero_add, Nat.zero_mul] at x0 y0 xm ym fx0 fy0
  have hap : Nonempty (Apart g gr) := ⟨⟨by omega⟩⟩
  have hset := fun W (hW : SinceOf w W) => (ho.of hW).setV 0 hn L[m].1 L[m].2
  simp only [Nat.zero_mul, Nat.zero_add] at hset
  obtain ⟨⟨px, pn⟩, hp⟩ : ∃ q, q = L[m] := ⟨_, rfl⟩
  rw [← hp] at xm ym hdn htp hset
  simp only at xm ym hset
  have hmL : m + 1 < 1099511627776 := by omega
  rw [hm] at hcap c1 HL hc'
  have HS := Lib.hid hset
  have HK := Lib.hid (And.intro hc' (And.intro hdn (And.intro htp (And.intro hm ho))))
  obtain ⟨v0, hv0⟩ : ∃ v, v = L[0].1 := ⟨_, rfl⟩
  obtain ⟨v1, hv1⟩ : ∃ v, v = L[0].2 := ⟨_, rfl⟩
  rw [← hv0] at x0
  rw [← hv1] at y0
  rw [hx0.trans hv0.symm]
  clear hdn htp hx0 hgl hset hlv hp ho hc' hord hm hL hn hv0 hv1
  have hz : ((m : Int) + 1 == 0) = false := by rw [beq_eq_false_iff_ne]; omega
  go_enter Tryz.func175, Tryz.ntmps175
  go_wp2_with fail
  refine (HL _ Sx).calls.mono ?_
  rintro e _ ⟨rfl, x1, rfl⟩
  go_upto_region 5 with fail
  go_cut [] (fun wx => HeapC wx g (some ⟨gr, 0, none⟩) (m + 1) c next ∧ OwnsE B wx (some ⟨gr, 0, none⟩) c (L.set 0 (px, pn)) ∧ Below B w wx)
  case first =>
    go_big_region
    all_goals go_wp2_with fail
    all_goals go_meet
    all_goals
      have hg2 : x1.wd.grownBy _ (some gr) := (grownBy_setCell (p := ⟨gr, 0, none⟩) rfl (.int .i64 px)).trans (grownBy_setCell (p := ⟨gr, 1, none⟩) rfl (.int .i64 pn))
      have hcc := HK.out.1.of (LaterOf.since ⟨x1, rfl⟩)
      have hcc2 := HeapC.setRow hcc hg2 (by omega)
      refine ⟨hcc2.of ((SinceOf.refl _).drew), ?_, ?_⟩
      · have hs1 : OwnsE B _ (some ⟨gr, 0, none⟩) c _ := HS.out x1.wd (LaterOf.since ⟨x1, rfl⟩)
        exact hs1.drew
      · have hb9 := x1.below.mono (B' := B) (by omega)
        exact (hb9.grown hg2 (by have := hb9.size; omega) (fun q e => by cases e; omega)).drew
  case rest =>
    obtain ⟨hc4, ho4, hb4⟩ := hcut
    clear c0 c1 c2 f1 f2 fx0 fy0 xm ym x0 y0 hO hOr
    obtain ⟨hc0, hdn, htp, hm, ho⟩ := HK.out
    obtain ⟨L4, hL4⟩ : ∃ l, l = L.set 0 (px, pn) := ⟨_, rfl⟩
    rw [← hL4] at ho4 hdn htp
    have hl4 : L4.length = m + 1 := by rw [hL4, List.length_set]; exact hm
    obtain ⟨gq, eq1, -, hlv⟩ := ho4.live encV_len (by omega)
    simp only [Option.some.injEq, Addr.mk.injEq, and_true] at eq1
    subst eq1
    have hOr := hlv.row.there
    have xm := hlv.row.v0 m (by omega)
    have ym := hlv.row.v1 m (by omega)
    have fxm := hlv.free (m * 2) (by omega)
    have fym := hlv.free (m * 2 + 1) (by omega)
    simp only [Nat.zero_add] at xm ym fxm fym
    have hst := (((ho4.setV m (by omega) 0 0).setCell_other (p := ⟨g, 1, none⟩) (by simpa [blockOf] using hgn) (.slice (some ⟨gr, 0, none⟩) m c))).take encV_len m (by simp; omega) (by simp)
    have hcst := HeapC.setSlice (n' := m) (HeapC.setRow hc4 ((grownBy_setCell (p := ⟨gr, m * 2, none⟩) rfl (.int .i64 0)).trans (grownBy_setCell (p := ⟨gr, m * 2 + 1, none⟩) rfl (.int .i64 0))) (show g ≠ gr by omega)) (some ⟨gr, 0, none⟩) c
    have hbst := ((hb4.setCell (p := ⟨gr, m * 2, none⟩) (show B ≤ gr by omega) (.int .i64 0)).setCell (p := ⟨gr, m * 2 + 1, none⟩) (show B ≤ gr by omega) (.int .i64 0)).setCell (p := ⟨g, 1, none⟩) hBg (.slice (some ⟨gr, 0, none⟩) m c)
    rw [show (L4.set m (0, 0)).take m = L4.take m from by rw [List.take_set_of_le (Nat.le_refl _)]] at hst
    have htl : (L4.take m).length = m := by rw [List.length_take]; omega
    have HM := Lib.hid (And.intro hst (And.intro hcst (And.intro hbst (And.intro hdn (And.intro htp htl)))))
    obtain ⟨c0, c1, c2, f1, f2, hO⟩ := hc4
    generalize L4[m].1 = q1 at *
    generalize L4[m].2 = q2 at *
    clear ho4 hb4 hdn htp hlv hst hcst hbst hl4 hL4 hc0 hm ho htl HS HK hz
    go_wp2_with fail
    go_loopg [2, 5] m (fun gas s2 s5 wr => ∃ (i : Nat) (L2 : List (Int × Int)), s2 = .int .i64 v0 ∧ s5 = .int .i64 i ∧ m - i ≤ gas ∧ i ≤ m ∧ L2.length = m ∧ HeapC wr g (some ⟨gr, 0, none⟩) m c next ∧ OwnsE B wr (some ⟨gr, 0, none⟩) c L2 ∧ HeapDown L2 i ∧ L2.Perm (L4.take m) ∧ Below B w wr)
    case atStart => exact ⟨0, L4.take m, rfl, rfl, by omega, by omega, HM.out.2.2.2.2.2, HM.out.2.1, HM.out.1, HM.out.2.2.2.1, List.Perm.refl _, HM.out.2.2.1⟩
    case round =>
      clear c0 c1 c2 f1 f2 xm ym fxm fym
      obtain ⟨i, L2, rfl, rfl, hgas, him, hl2, hc5, ho5, hdn, hpm, hb5⟩ := hrel
      obtain ⟨ws, rfl⟩ : ∃ ws, ws = wr := ⟨_, rfl⟩
      have AH := fun (a b : Nat) (ha : a < m) (hb : b < m) W (hW : SinceOf ws W) => ahead_any g (some ⟨gr, 0, none⟩) c next L2 a b (by omega) (by omega) (by omega) W (by rw [hl2]; exact hc5.of hW) ((ho5.isRow encV_len).of hW)
      have HN := Lib.hid (And.intro hc5 (And.intro ho5 (And.intro hdn (And.intro hpm (And.intro hb5 hl2)))))
      have hOg := hc5.there
      clear hc5 ho5 hdn hpm hb5
      go_upto_region 11 with fail
      go_cut [66] (fun s66 wx => ∃ b : Bool, s66 = .bool b ∧ Kid L2 m (2 * i + 1) i b ∧ LaterOf ws wx)
      case first =>
        by_cases h1 : 2 * i + 1 < m
        · have A1 := AH (2 * i + 1) i h1 (by omega)
          have K1 := kid_of (L := L2) hl2 h1 (show i < m by omega)
          rw [show ((2 * i + 1 : Nat) : Int) = 2 * (i : Int) + 1 by omega] at A1
          generalize aheadB (L2[2 * i + 1]'(by omega)) (L2[i]'(by omega)) = b1 at *
          have HK1 := Lib.hid K1
          have hd : decide (2 * (i : Int) + 1 < (m : Int)) = true := by simp; omega
          clear K1 AH hl2
          go_wp2_with fail
          (with_reducible refine (A1 _ Sx).calls.mono ?_)
          rintro e _ ⟨rfl, x2, rfl⟩
          go_wp2_with fail
          go_meet
          exact ⟨b1, rfl, HK1.out, Lx⟩
        · have hd : decide (2 * (i : Int) + 1 < (m : Int)) = false := by simp; omega
          clear AH hl2
          go_wp2_with fail
          go_meet
          exact ⟨false, rfl, kid_no h1, Lx⟩
      case rest =>
        obtain ⟨b1, rfl, hk1, ⟨x2, rfl⟩⟩ := hcut
        have HB1 := Lib.hid (best1_of hk1)
        clear hk1
        go_upto_if 66 with fail
        go_cut [6] (fun s6 wx => ∃ p : Nat, s6 = .int .i64 p ∧ Best1 L2 m i p ∧ LaterOf ws wx)
        case first =>
          clear AH
          cases b1
          · go_wp2_with fail
            go_meet
            exact ⟨i, rfl, HB1.out, Lx⟩
          · go_wp2_with fail
            go_meet
            exact ⟨2 * i + 1, (by congr 1), HB1.out, Lx⟩
        case rest =>
          clear HB1
          obtain ⟨p, rfl, hp1, ⟨x3, rfl⟩⟩ := hcut
          have hpm : 2 * i + 2 < m → p < m := by intro h; unfold Best1 at hp1; omega
          have HP := Lib.hid hp1
          clear hp1
          go_upto_region 14 with fail
          go_cut [79] (fun s79 wx => ∃ b : Bool, s79 = .bool b ∧ Kid L2 m (2 * i + 2) p b ∧ LaterOf ws wx)
          case first =>
            by_cases h1 : 2 * i + 2 < m
            · have A1 := AH (2 * i + 2) p h1 (hpm h1)
              have K1 := kid_of (L := L2) hl2 h1 (hpm h1)
              rw [show ((2 * i + 2 : Nat) : Int) = 2 * (i : Int) + 2 by omega] at A1
              generalize aheadB (L2[2 * i + 2]'(by omega)) (L2[p]'(by have := hpm h1; omega)) = b2 at *
              have HK1 := Lib.hid K1
              have hd : decide (2 * (i : Int) + 2 < (m : Int)) = true := by simp; omega
              clear K1 AH hl2 hpm
              go_wp2_with fail
              (with_reducible refine (A1 _ Sx).calls.mono ?_)
              rintro e _ ⟨rfl, x4, rfl⟩
              go_wp2_with fail
              go_meet
              exact ⟨b2, rfl, HK1.out, Lx⟩
            · have hd : decide (2 * (i : Int) + 2 < (m : Int)) = false := by simp; omega
              clear AH hl2 hpm
              go_wp2_with fail
              go_meet
              exact ⟨false, rfl, kid_no h1, Lx⟩
          case rest =>
            obtain ⟨b2, rfl, hk2, ⟨x4, rfl⟩⟩ := hcut
            have HB2 := Lib.hid (best2_of HP.out hk2)
            clear hk2 AH HP hpm
            go_upto_if 79 with fail
            go_cut [6] (fun s6 wx => ∃ q : Nat, s6 = .int .i64 q ∧ Best2 L2 m i q ∧ LaterOf ws wx)
            case first =>
              cases b2
              · go_wp2_with fail
                go_meet
                exact ⟨p, rfl, HB2.out, Lx⟩
              · go_wp2_with fail
                go_meet
                exact ⟨2 * i + 2, (by congr 1), HB2.out, Lx⟩
            case rest =>
              clear HB2
              obtain ⟨q, rfl, hq, ⟨x5, rfl⟩⟩ := hcut
              rcases hq with ⟨rfl, hq⟩ | ⟨hiq, hqm, hqi, hqle, hq⟩
              · have hord := HN.out.2.2.1.done (fun j j0 hj e => hq j j0 (by rw [← hl2]; exact hj) e)
                have HO := Lib.hid hord
                clear hord hq
                go_wp2_with fail
                go_returns
                exact ⟨rfl, L2, ⟨_, _, by rw [hl2]; exact HN.out.1.of (LaterOf.since ⟨x5, rfl⟩), HN.out.2.1.of (LaterOf.since ⟨x5, rfl⟩), hBg, hAg⟩, HO.out, (List.Perm.cons _ HN.out.2.2.2.1).trans HM.out.2.2.2.2.1, HN.out.2.2.2.2.1.trans (x5.below.mono (by have := HN.out.2.2.2.2.1.size; omega))⟩
              · have hsw := HN.out.2.2.1.swap (b := q) (by omega) (by omega) hqi (fun j j0 hj e => hq j j0 (by rw [← hl2]; exact hj) e) hqle
                have hsp := (swapL_perm (L := L2) (i := i) (k := q) (by omega) (by omega)).trans HN.out.2.2.2.1
                have hsl := swapL_length L2 i q
                have hse : swapL L2 i q = (L2.set i (L2[q]'(by omega))).set q (L2[i]'(by omega)) := by unfold swapL; rw [List.getD_eq_getElem?_getD, List.getElem?_eq_getElem (by omega), Option.getD_some, List.getD_eq_getElem?_getD, List.getElem?_eq_getElem (by omega), Option.getD_some]
                have hlv := (HN.out.2.1.live encV_len (by omega))
                obtain ⟨gq, eq1, -, hlv⟩ := hlv
                simp only [Option.some.injEq, Addr.mk.injEq, and_true] at eq1
                subst eq1
                have hOr := hlv.row.there
                have i0' := hlv.row.v0 i (by omega)
                have i1' := hlv.row.v1 i (by omega)
                have u0' := hlv.row.v0 q (by omega)
                have u1' := hlv.row.v1 q (by omega)
                have fi0 := hlv.free (i * 2) (by omega)
                have fi1 := hlv.free (i * 2 + 1) (by omega)
                have fu0 := hlv.free (q * 2) (by omega)
                have fu1 := hlv.free (q * 2 + 1) (by omega)
                simp only [Nat.zero_add] at i0' i1' u0' u1' fi0 fi1 fu0 fu1
                have S1 := fun W (hW : SinceOf ws W) => ((HN.out.2.1.of hW).setV i (by omega) (L2[q]'(by omega)).1 (L2[q]'(by omega)).2).setV q (by simp; omega) (L2[i]'(by omega)).1 (L2[i]'(by omega)).2
                obtain ⟨⟨ix, im⟩, hi'⟩ : ∃ q, q = (L2[i]'(by omega)) := ⟨_, rfl⟩
                obtain ⟨⟨ux, um⟩, hu'⟩ : ∃ r, r = (L2[q]'(by omega)) := ⟨_, rfl⟩
                rw [← hi', ← hu'] at hse
                simp only [← hi', ← hu'] at S1
                rw [← hi'] at i0' i1'
                rw [← hu'] at u0' u1'
                simp only at i0' i1' u0' u1'
                have HS := Lib.hid (And.intro S1 (And.intro hsw (And.intro hsp (And.intro hsl hse))))
                obtain ⟨c0, c1, c2, f1, f2, hO⟩ := HN.out.1
                have hne : ((q : Int) == (i : Int)) = false := by rw [beq_eq_false_iff_ne]; omega
                have hne2 : i ≠ q := by omega
                have hi1 : i < m := by omega
                clear S1 hsw hsp hsl hse hlv hi' hu' hq hqle hqi
                go_upto_region 18 with fail
                go_cut [] (fun wx => HeapC wx g (some ⟨gr, 0, none⟩) m c next ∧ OwnsE B wx (some ⟨gr, 0, none⟩) c (swapL L2 i q) ∧ Below B w wx)
                case first =>
                  go_big_region
                  all_goals go_wp2_with fail
                  all_goals go_meet
                  all_goals
                    have hg4 : x5.wd.grownBy _ (some gr) := (((grownBy_setCell (p := ⟨gr, i * 2, none⟩) rfl (.int .i64 ux)).trans (grownBy_setCell (p := ⟨gr, i * 2 + 1, none⟩) rfl (.int .i64 um))).trans (grownBy_setCell (p := ⟨gr, q * 2, none⟩) rfl (.int .i64 ix))).trans (grownBy_setCell (p := ⟨gr, q * 2 + 1, none⟩) rfl (.int .i64 im))
                    have hcc := HN.out.1.of (LaterOf.since ⟨x5, rfl⟩)
                    have hcc2 := HeapC.setRow hcc hg4 (by omega)
                    refine ⟨hcc2.of ((SinceOf.refl _).drew), ?_, ?_⟩
                    · have hs1 : OwnsE B _ (some ⟨gr, 0, none⟩) c _ := HS.out.1 x5.wd (LaterOf.since ⟨x5, rfl⟩)
                      rw [← HS.out.2.2.2.2] at hs1
                      exact hs1.drew
                    · have hb9 := HN.out.2.2.2.2.1.trans (x5.below.mono (B' := B) (by have := HN.out.2.2.2.2.1.size; omega))
                      exact (hb9.grown hg4 (by have := hb9.size; omega) (fun q e => by cases e; omega)).drew
                case rest =>
                  obtain ⟨hc7, ho7, hb7⟩ := hcut
                  have HQ := Lib.hid (And.intro hc7 (And.intro ho7 hb7))
                  clear hc7 ho7 hb7 c0 c1 c2 f1 f2 i0' i1' u0' u1' fi0 fi1 fu0 fu1
                  go_wp2_with fail
                  go_roundg (m - q)
                  case measure => omega
                  case rel => exact ⟨q, swapL L2 i q, rfl, rfl, Nat.le_refl _, by omega, by rw [HS.out.2.2.2.1]; exact hl2, HQ.out.1, HQ.out.2.1, HS.out.2.1, HS.out.2.2.1, HQ.out.2.2⟩
end Go.Proofs.YtpaojgfmffkodaaGreat
/- The heap of times: New, Clone, All. -/
namespace Go.Proofs.YtpaojgfmffkodaaGreat
set_option linter.unusedVariables false
set_option linter.unusedSimpArgs false
open Go.RowKit Go.Shelf
attribute [local go_sem ↓] Go.wp_at_zero Go.wp_at_succ
@[go_sem ↓] theorem eql_lessF_nil (w : World) : (binOp .eql 190 lessF .nilFunc).run Tryz.prog w = .ok (.bool false) w := by kernel_rfl
@[go_sem] theorem eql_entries_nil (w : World) (A : Option Addr) (n c n' c' : Nat) : (binOp .eql 226 (.slice A n c) (.slice none n' c')).run Tryz.prog w = .ok (.bool A.isNone) w :=
  Lib.run_eql_slice_nil w _ _ A n c n' c' Tryz.underlying226
set_option maxRecDepth 100000 in
theorem hnew_any (w : World) : Calls Tryz.prog 157 #[lessF] w fun e w' => e = .returned (.pointer (some ⟨w.heap.size, 0, none⟩)) ∧ HeapIs w' w.heap.size w.heap.size [] 0 ∧ LaterOf w w' := by
  go_enter Tryz.func157, Tryz.ntmps157
  go_wp2_with fail
  go_returns
  exact ⟨rfl, ⟨none, 0, ⟨by simp [go_sem], by simp [go_sem], by simp [go_sem], by simp [go_sem], by simp [go_sem], inferInstance⟩, Owns.nil _ _ _ _ _, Nat.le_refl _, by simp [blockOf]⟩, Lx⟩
theorem cloneE_any (A : Option Addr) (c : Nat) (l : List (Int × Int)) (w : World) (hl : IsRow encV 2 w A c l) (hn : l.length * 16 ≤ 140737488355328) :
    Calls Tryz.prog 187 #[.slice A l.length c] w fun e w' => ∃ A' c', e = .returned (.slice A' l.length c') ∧ OwnsE w.heap.size w' A' c' l ∧ SinceOf w w' := by
  obtain ⟨i0, hi, hz0, hz1, hz2⟩ := info_parts infoEntry
  cases A with
  | none =>
    obtain rfl : c = 0 := hl.1 rfl
    have hl0 : l = [] := by
      rcases hl.2 with h | ⟨g, off, h, _⟩
      · exact h
      · cases h
    subst hl0
    go_enter Tryz.func187, Tryz.ntmps187
    go_wp2_with fail
    go_returns
    exact ⟨none, 0, rfl, Owns.nil _ _ _ _ _, SinceOf.refl _⟩
  | some ad =>
    go_enter Tryz.func187, Tryz.ntmps187
    go_wp2_with (at_builtin; refine wpList_append_row rfl (.tmp 5) (.tmp 6) 226 rfl encV_len (by omega) encV_one i0 _ 16 Tryz.underlying226 hi hz0 hz1 hz2 rfl (l := []) (A := some ⟨w.heap.size, 0, none⟩) (c := 0) (base := w.heap.size) rfl (World.ownsRow_lit w #[] 0 (Nat.le_refl _) (Nat.zero_le _) rfl) (m := l) rfl (hl.of (SinceOf.alloc (SinceOf.refl w) _)) (by unfold maxLen; simp; omega) (by simpa using hn) (by simp) ?_; intro A' c' w' hown hgrow _)
    go_returns
    exact ⟨A', c', rfl, hown, ((SinceOf.refl w).alloc _).grown hgrow (by intro k hk; simp [blockOf] at hk; omega)⟩
set_option maxRecDepth 100000 in
set_option maxHeartbeats 2000000 in
theorem hclone_any (B g : Nat) (L : List (Int × Int)) (next : Int) (w : World) (h : HeapIs w B g L next) (hL : L.length < 1099511627776) :
    Calls Tryz.prog 174 #[.pointer (some ⟨g, 0, none⟩)] w fun e w' => ∃ g', e = .returned (.pointer (some ⟨g', 0, none⟩)) ∧ HeapIs w' w.heap.size g' L next ∧ SinceOf w w' := by
  obtain ⟨A, c, hc, ho, -, -⟩ := h
  have hrow := ho.isRow encV_len
  obtain ⟨c0, c1, c2, f1, f2, hO⟩ := hc
  have HR := Lib.hid hrow
  clear ho hrow
  go_enter Tryz.func174, Tryz.ntmps174
  go_wp2_with fail
  go_region_held3 (fun w' => w'.cell? ⟨g, 0, none⟩ = some lessF ∧ w'.cell? ⟨g, 1, none⟩ = some (.slice A L.length c) ∧ w'.cell? ⟨g, 2, none⟩ = some (.int .i64 next)) ((simp [go_sem, *]))
    (first | (go_at_call 187; refine (cloneE_any A c L _ (HR.out.of Sx) (by omega)).mono ?_; rintro e _ ⟨A1, c3, rfl, ho, ⟨y5, rfl⟩⟩))
  all_goals
    go_wp2_with fail
    go_returns
    exact ⟨y5.wd.heap.size, rfl, ⟨A1, c3, ⟨by simp [go_sem], by simp [go_sem], by simp [go_sem], by simp [go_sem], by simp [go_sem], inferInstance⟩, Owns.alloc ho _, y5.size, fun e => by have := (ho.below _ e).2; omega⟩, Sx⟩
theorem hall_any (g : Nat) (w : World) : Calls Tryz.prog 160 #[.pointer (some ⟨g, 0, none⟩)] w fun e w' => e = .returned (.func (.func 173) #[] #[.pointer (some ⟨w.heap.size, 0, none⟩)]) ∧ w' = w.alloc (.cells #[.pointer (some ⟨g, 0, none⟩)] 210) := by
  go_enter Tryz.func160, Tryz.ntmps160
  go_wp2_with fail
  go_returns
  exact ⟨rfl, rfl⟩
def heapN (w : World) (g : Nat) : Nat := match w.cell? ⟨g, 1, none⟩ with | some (.slice _ n _) => n | _ => 0
def boolN (v : Value) : Nat := match v with | .bool true => 1 | _ => 0
theorem HeapIs.of {w w' : World} {B g : Nat} {L : List (Int × Int)} {next : Int} (h : HeapIs w B g L next) (hs : SinceOf w w') : HeapIs w' B g L next := by
  obtain ⟨A, c, hc, ho, h1, h2⟩ := h
  exact ⟨A, c, hc.of hs, ho.of hs, h1, h2⟩
theorem HeapIs.above {w w' : World} {B g : Nat} {L : List (Int × Int)} {next : Int} (h : HeapIs w B g L next) (hs : Above B w w') : HeapIs w' B g L next := by
  obtain ⟨A, c, ⟨c0, c1, c2, f1, f2, hO⟩, ⟨ho1, ho2⟩, h1, h2⟩ := h
  have hlt := hO.elim fun q => q.lt
  have hb := hs.block g h1 hlt
  refine ⟨A, c, ⟨(World.cell?_of_block hb).trans c0, (World.cell?_of_block hb).trans c1, (World.cell?_of_block hb).trans c2, (World.frozen?_of_block hb).trans f1, (World.frozen?_of_block hb).trans f2, ⟨⟨Nat.lt_of_lt_of_le hlt hs.size⟩⟩⟩, ⟨ho1, ?_⟩, h1, h2⟩
  rcases ho2 with ho2 | ⟨q, cap, cur, hv, hbq, hg, r⟩
  · exact .inl ho2
  · refine .inr ⟨q, cap, cur, hv, hbq, ?_, r⟩
    rw [hs.block q hbq (Array.getElem?_eq_some_iff.1 hg).1]; exact hg
theorem HeapIs.size {w : World} {B g : Nat} {L : List (Int × Int)} {next : Int} (h : HeapIs w B g L next) : heapN w g = L.length := by
  obtain ⟨A, c, ⟨c0, c1, c2, f1, f2, hO⟩, -⟩ := h
  unfold heapN; rw [c1]
def PopR (rest : List Int) (x : Int) (ok : Bool) (L : List (Int × Int)) : Prop := (ok = true ∧ ∃ post, rest = x :: post ∧ Drains L post) ∨ (ok = false ∧ rest = [] ∧ L = [])
theorem pop_any (B g : Nat) (L : List (Int × Int)) (next : Int) (rest : List Int) (w : World) (h : HeapIs w B g L next) (hord : HeapOrd L) (hL : L.length < 1099511627776) (hxs : Drains L rest) :
    Calls Tryz.prog 175 #[.pointer (some ⟨g, 0, none⟩)] w fun e w' => ∃ (x : Int) (ok : Bool) (L' : List (Int × Int)), e = .returned (.tuple #[.int .i64 x, .bool ok]) ∧ HeapIs w' B g L' next ∧ HeapOrd L' ∧ L'.length + boolN (.bool ok) = L.length ∧ Below B w w' ∧ PopR rest x ok L' := by
  have hB : B ≤ w.heap.size := by
    obtain ⟨A, c, hc, ho, h1, h2⟩ := h
    have := hc.there.elim fun q => q.lt
    omega
  cases L with
  | nil =>
    refine (pop_none B g next w h).calls.mono ?_
    rintro e _ ⟨rfl, x1, rfl⟩
    exact ⟨0, false, [], rfl, h.of (LaterOf.since ⟨x1, rfl⟩), HeapOrd.nil, rfl, x1.below.mono hB, .inr ⟨rfl, hxs.nil, rfl⟩⟩
  | cons p L =>
    refine (pop_some B g (p :: L) next w h hord hL (by simp)).mono ?_
    rintro e w' ⟨rfl, L', h1, h2, h3, h4⟩
    obtain ⟨r, hr, hd⟩ := hxs.step hord (by simp) h3
    refine ⟨_, true, L', rfl, h1, h2, ?_, h4, .inl ⟨rfl, r, hr, hd⟩⟩
    have := h3.length_eq
    simp at this ⊢
    simp [boolN]; omega
theorem wide_none (h : Fence.wide.depth.isSome = true) (n : Nat) : 1 ≤ n := by simp [Fence.wide] at h
set_option maxRecDepth 100000 in
set_option maxHeartbeats 4000000 in
theorem hseq_any (B g b : Nat) (L : List (Int × Int)) (next : Int) (xs : List Int) (w : World) (h : HeapIs w B g L next) (hord : HeapOrd L) (hL : L.length < 1099511627776) (hxs : Drains L xs) (hb : w.cell? ⟨b, 0, none⟩ = some (.pointer (some ⟨g, 0, none⟩))) (hbO : Nonempty (Old w b)) (n : Nat) :
    SeqL Fence.wide n Tryz.prog 173 #[.pointer (some ⟨b, 0, none⟩)] (fun x => #[.int .i64 x]) xs w := by
  intro l J Jx W hW hJ hJx hY h0
  have hbW : W.cell? ⟨b, 0, none⟩ = some (.pointer (some ⟨g, 0, none⟩)) := by
    obtain ⟨z, rfl⟩ := hW
    rw [Since.cell]; exact hb
  have hH : HeapIs W B g L next := h.of hW
  have HH := Lib.hid (And.intro hH (And.intro hord hxs))
  have HY := Lib.hid hY
  have HJ := Lib.hid (And.intro hJ (And.intro hJx h0))
  clear h hH hb hY hJ hJx h0 hbO hW hord hxs
  refine callsIn_of_wp Tryz.func173 rfl trivial ?_ rfl
  simp only [Tryz.ntmps173, List.size_toArray, List.length_cons, List.length_nil, Nat.reduceAdd, Nat.reduceSub, Array.replicate_succ, Array.replicate_zero, List.push_toArray, List.append_toArray, List.nil_append, List.cons_append]
  gi_wp2_with fail
  refine ⟨trivial, fun h => wide_none h _, ?_⟩
  refine (callsIn_wide.2 (hclone_any B g L next W HH.out.1 hL)).mono ?_
  rintro e _ ⟨gc, rfl, hc, ⟨y1, rfl⟩⟩
  have HC := Lib.hid hc
  clear hc hbW
  gi_wp2_with fail
  refine ⟨trivial, fun h => wide_none h _, ?_⟩
  refine (callsIn_wide.2 (pop_any W.heap.size gc L next xs y1.wd HC.out HH.out.2.1 hL HH.out.2.2)).mono ?_
  rintro e W1 ⟨x, ok, L1, rfl, hh1, ho1, hn1, hb1, hr1⟩
  have H1 := Lib.hid (And.intro hh1 (And.intro ho1 (And.intro (show J [] W1 from HJ.out.1 _ _ _ (HJ.out.1 _ _ _ HJ.out.2.2 y1.below) hb1) hr1)))
  have hL1 : L1.length < 1099511627776 := by omega
  clear hh1 ho1 hn1 hb1 hr1
  gi_wp2_with fail
  gi_loopw [4, 5] (fun s4 s5 wr => ∃ (pre rest : List Int) (x : Int) (ok : Bool) (L2 : List (Int × Int)), s4 = .int .i64 x ∧ s5 = .bool ok ∧ xs = pre ++ rest ∧ HeapIs wr W.heap.size gc L2 next ∧ HeapOrd L2 ∧ L2.length < 1099511627776 ∧ J pre wr ∧ PopR rest x ok L2) (fun s4 s5 wr => heapN wr gc + boolN s5)
  case atStart => exact ⟨[], xs, x, ok, L1, rfl, rfl, rfl, H1.out.1, H1.out.2.1, hL1, H1.out.2.2.1, H1.out.2.2.2⟩
  case round =>
    obtain ⟨pre, rest, x2, ok2, L2, rfl, rfl, hxs2, hh2, ho2, hL2, hj2, hr2⟩ := hrel
    have hz2 := hh2.size
    rcases hr2 with ⟨rfl, post, rfl, hd⟩ | ⟨rfl, rfl, rfl⟩
    · obtain ⟨fn, tmps, assign, body, hy, hR⟩ := HY.out pre x2 post wr hxs2 hj2
      have HE := Lib.hid (And.intro hxs2 (And.intro hh2 (And.intro ho2 (And.intro hd hz2))))
      clear hxs2 hh2 ho2 hd hj2 hz2
      gi_wp2_with fail
      refine ⟨fun h => wide_none h _, hR.mono ?_⟩
      rintro e W3 (⟨rfl, hJ3, hk3⟩ | ⟨rfl, hJx3⟩)
      · have HF := Lib.hid (And.intro hJ3 (HE.out.2.1.above hk3))
        clear hJ3 hk3 hy hR
        gi_wp2_with fail
        refine ⟨trivial, fun h => wide_none h _, ?_⟩
        refine (callsIn_wide.2 (pop_any W.heap.size gc L2 next post W3 HF.out.2 HE.out.2.2.1 hL2 HE.out.2.2.2.1)).mono ?_
        rintro e W4 ⟨x4, ok4, L4, rfl, hh4, ho4, hn4, hb4, hr4⟩
        have HG := Lib.hid (And.intro hh4 (And.intro ho4 (And.intro hn4 (And.intro (show J (pre ++ [x2]) W4 from HJ.out.1 _ _ _ HF.out.1 hb4) hr4))))
        clear hh4 ho4 hn4 hb4 hr4
        gi_wp2_with fail
        go_roundw
        case rel => exact ⟨pre ++ [x2], post, x4, ok4, L4, rfl, rfl, by rw [HE.out.1]; simp, HG.out.1, HG.out.2.1, by have := HG.out.2.2.1; omega, HG.out.2.2.2.1, HG.out.2.2.2.2⟩
        case measure => rw [HG.out.1.size, HE.out.2.1.size, HG.out.2.2.1]; simp [boolN]
      · have HF := Lib.hid hJx3
        clear hJx3 hy hR
        gi_wp2_with fail
        refine bodyPost_ret (results_none rfl _ _ _) rfl ?_
        exact ⟨⟨_, rfl⟩, .inr ⟨_, HF.out⟩⟩
    · simp at hxs2
      have HE := Lib.hid (And.intro hxs2 hj2)
      clear hxs2 hj2
      gi_wp2_with fail
      go_end0
      exact ⟨⟨_, rfl⟩, .inl (by rw [HE.out.1]; exact HE.out.2)⟩
end Go.Proofs.YtpaojgfmffkodaaGreat
