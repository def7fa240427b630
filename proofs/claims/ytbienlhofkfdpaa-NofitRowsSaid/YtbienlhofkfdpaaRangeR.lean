/- A loop over an iterator whose yielded values stand in the world of the call (a slice just made): the relation in place of the encoding. -/
import Derived.Test.YtbienlhofkfdpaaRange4
namespace Go.Proofs.Ytbienlhofkfdpaa
open Go.RowKit
set_option linter.unusedVariables false

/-- What an iterator promises that only reads and makes memory, and yields xs, each as Enc says. -/
def SeqR {α : Type} (Kp : World → Prop) (F : Fence) (n : Nat) (P : Program) (g : Nat) (lb : Array Value) (Enc : α → Array Value → World → Prop) (xs : List α) (w : World) : Prop :=
  ∀ (l : Nat) (J Jx : List α → World → Prop) (W : World), SinceOf w W → (∀ s A B, J s A → SinceOf A B → J s B) → (∀ s A B, Jx s A → SinceOf A B → Jx s B) → (∀ s A, J s A → Kp A) →
    (∀ pre x post args W1, xs = pre ++ x :: post → Enc x args W1 → J pre W1 → YieldAt F (n - 1) P l args W1 fun e W' =>
      (e = .returned (.bool true) ∧ J (pre ++ [x]) W') ∨ (e = .returned (.bool false) ∧ Jx (pre ++ [x]) W')) →
    J [] W →
    CallsIn F n P g (#[.func (.yield l) #[] #[]] ++ lb) W fun e W' => (∃ v, e = .returned v) ∧ (J xs W' ∨ ∃ pre, Jx pre W')
section
variable {F : Fence} {n : Nat} {P : Program}
theorem wpIn_rangeFunc_rel {α : Type} {g : Operand} {ps : Array Tmp} {assign body : Code} {Q : Exit → Act → World → Prop} {a : Act} {w : World}
    (hro : F.round = none) (h1 : 1 ≤ n) {gf : Nat} {lb : Array Value} (hg : a.eval g = .func (.func gf) #[] lb) (hFg : F.fn gf) (eg : ∀ args w, (callFunc gf args).run P w = .ok (.enter gf args) w)
    {Kp : World → Prop} {Enc : α → Array Value → World → Prop} {xs : List α} (hseq : SeqR Kp F (n - 1) P gf lb Enc xs w) (hps : ∀ x args W, Enc x args W → args.size = ps.size)
    (I : List α → World → Prop) (Ix : Code → List α → World → Prop) (hI : ∀ s A B, I s A → A.grownBy B (some (w.heap.size + 1)) → I s B) (hIx : ∀ c s A B, Ix c s A → A.grownBy B (some (w.heap.size + 1)) → Ix c s B) (hK : ∀ s A, I s A → Kp A) (h0 : I [] w)
    (hround : ∀ (l : Nat) (pre : List α) (x : α) (post : List α) (args : Array Value) (W : World), xs = pre ++ x :: post → w.heap.size + 2 ≤ W.heap.size → (∃ o, W.heap[w.heap.size + 1]? = some (.loop o)) → Enc x args W → I pre W → ∃ (a₁ : Act) (V : World), SinceOf W V ∧
      (∀ K : Act → World → Prop, K a₁ V → assign.wpIn (F.inRound l) (n - 1 - 1) P (Exit.then K (fun _ _ _ => False)) { tmps := (ps.zip args).foldl (fun t (p, v) => t.setIfInBounds p v) a.tmps, defers := [] } W) ∧
      (∀ W2 : World, V.grownBy W2 (some (w.heap.size + 1)) → w.heap.size + 2 ≤ W2.heap.size → I pre W2 → body.wpIn (F.inRound l) (n - 1 - 1) P (postG w.heap.size I Ix (pre ++ [x]) W2) a₁ W2))
    (hdone : ∀ (D : Nat) (W : World), w.heap.size ≤ D → I xs W → W.heap[D]? = some (.deferred (some [])) → Q .normal { a with defers := { target := .collected D, args := #[] } :: a.defers } W)
    (hstop : ∀ (D : Nat) (c : Code) (pre : List α) (W : World), w.heap.size ≤ D → Ix c pre W → W.heap[D]? = some (.deferred (some [])) → c.wpIn F n P Q { a with defers := { target := .collected D, args := #[] } :: a.defers } W) :
    (Code.rangeFunc g ps assign body).wpIn F n P Q a w := by
  refine wpIn_rangeFunc ?_
  intro fn hfn
  rw [hro]
  obtain ⟨rec, hrec⟩ : ∃ rec : LoopState → Option Code → Loop, rec = fun st pe => { state := st, pending := pe, fn, tmps := a.tmps, params := ps, assign, body, defers := w.heap.size } := ⟨_, rfl⟩
  obtain ⟨W1, hW1⟩ : ∃ W1, (w.alloc (.deferred (some []))).alloc (.loop (rec .ready none)) = W1 := ⟨_, rfl⟩
  have hz1 : W1.heap.size = w.heap.size + 2 := by rw [← hW1]; simp
  have hL1 : W1.heap[w.heap.size + 1]? = some (.loop (rec .ready none)) := by
    rw [← hW1]; have := World.alloc_heap_new (w.alloc (.deferred (some []))) (.loop (rec .ready none)); rwa [World.size_alloc] at this
  have hK1 : W1.heap[w.heap.size]? = some (.deferred (some [])) := by
    rw [← hW1]; exact (Below.heap_alloc _ _ _ (by simp)).trans (World.alloc_heap_new w _)
  have hb1 : SinceOf w W1 := by rw [← hW1]; exact ((SinceOf.refl w).alloc _).alloc _
  have sg : ∀ {A B : World}, SinceOf A B → A.grownBy B (some (w.heap.size + 1)) := fun h => by
    obtain ⟨z, rfl⟩ := h; exact Since.grownBy z _
  have hI1 : I [] W1 := hI _ _ _ h0 (sg hb1)
  refine ⟨w.heap.size + 1, [{ target := .collected w.heap.size, args := #[] }], W1, { target := .fn (.func gf) lb, args := #[.func (.yield (w.heap.size + 1)) #[] #[]] }, W1, gf,
    #[.func (.yield (w.heap.size + 1)) #[] #[]] ++ lb, W1, ?_, ?_, ?_, ?_, fun _ => h1, ?_⟩
  · rw [← hW1, hrec]; exact run_enterLoop_outer _ _ _ _ _
  · simp only [resolve, hg]
    simp [go_sem]
  · intro f' hf'; simp [Target.leads] at hf'; subst hf'; exact hFg
  · simp [invoke, go_sem, eg]
  · have low : ∀ (A B : World), SinceOf A B → ∀ (o : Obj) (k : Nat), A.heap[k]? = some o → B.heap[k]? = some o := fun A B h o k hk => by
      obtain ⟨z, rfl⟩ := h
      exact (z.below.block k (Array.getElem?_eq_some_iff.1 hk).1).trans hk
    refine (hseq (w.heap.size + 1)
      (fun pre W => I pre W ∧ W.heap[w.heap.size + 1]? = some (.loop (rec .ready none)) ∧ W.heap[w.heap.size]? = some (.deferred (some [])))
      (fun pre W => ∃ c, Ix c pre W ∧ W.heap[w.heap.size + 1]? = some (.loop (rec .done (some c))) ∧ W.heap[w.heap.size]? = some (.deferred (some [])))
      W1 hb1
      (fun s A B hs hab => ⟨hI s A B hs.1 (sg hab), low _ _ hab _ _ hs.2.1, low _ _ hab _ _ hs.2.2⟩)
      (fun s A B hs hab => by
        obtain ⟨c, hc, hl, hk⟩ := hs
        exact ⟨c, hIx c s A B hc (sg hab), low _ _ hab _ _ hl, low _ _ hab _ _ hk⟩)
      (fun s A hs => hK s A hs.1)
      ?_ ⟨hI1, hL1, hK1⟩).mono ?_
    · rintro pre x post args W hxs hen ⟨hi, hl, hk⟩
      have hlt : w.heap.size + 1 < W.heap.size := (Array.getElem?_eq_some_iff.1 hl).1
      have hy := run_yield (P := P) (args := args) hl (by rw [hrec]; exact hps x _ _ hen)
      rw [hrec] at hy
      obtain ⟨a₁, V, hWV, hass, hbod⟩ := hround (w.heap.size + 1) pre x post args W hxs (by omega) ⟨_, hl⟩ hen hi
      have hlV := low _ _ hWV _ _ hl
      have hkV := low _ _ hWV _ _ hk
      have hiV : I pre V := hI _ _ _ hi (sg hWV)
      have hltV : w.heap.size + 1 < V.heap.size := (Array.getElem?_eq_some_iff.1 hlV).1
      refine ⟨fn, _, assign, body, hy, roundIn_of_wpIn hfn (hass _ ⟨_, run_beginRound hlV (by rw [hrec]), ?_⟩)⟩
      obtain ⟨W2, hW2⟩ : ∃ W2, V.putObj (w.heap.size + 1) (.loop { rec .ready none with state := .busy }) = W2 := ⟨_, rfl⟩
      have hl2 : W2.heap[w.heap.size + 1]? = some (.loop { rec .ready none with state := .busy }) := by rw [← hW2]; exact World.putObj_heap_same hltV
      have hk2 : W2.heap[w.heap.size]? = some (.deferred (some [])) := by rw [← hW2]; exact (World.putObj_heap_other (by omega)).trans hkV
      have hz2 : W2.heap.size = V.heap.size := by rw [← hW2]; simp
      have hi2 : I pre W2 := by rw [← hW2]; exact hI _ _ _ hiV (grown_putObj V _)
      have hbd := hbod W2 (by rw [← hW2]; exact grown_putObj V _) (by omega) hi2
      have hbd' := hbd
      rw [← hW2] at hbd'
      refine wpIn_mono hbd' ?_
      have fin : ∀ (jump : Option Code) (W3 : World), Spares w.heap.size W2 W3 → ∃ W4,
          (Instr.endRound (w.heap.size + 1) jump).run P W3 = .ok (.bool jump.isNone) W4 ∧ W3.grownBy W4 (some (w.heap.size + 1)) ∧
          W4.heap[w.heap.size + 1]? = some (.loop (rec (if jump.isNone then .ready else .done) jump)) ∧ W4.heap[w.heap.size]? = some (.deferred (some [])) := fun jump W3 ha => by
        have hl3 := ha.b1.trans hl2
        have hz3 := ha.size
        have := run_endRound (P := P) jump hl3
        rw [hrec] at this ⊢
        exact ⟨_, this, grown_putObj W3 _, World.putObj_heap_same (by omega), (World.putObj_heap_other (by omega)).trans (ha.b0.trans hk2)⟩
      rintro e a3 W3 hp
      cases e with
      | normal =>
        obtain ⟨ha3, hi3⟩ := hp
        obtain ⟨W4, hr, hb, hl4, hk4⟩ := fin none W3 (by rw [← hW2]; exact ha3)
        exact ⟨_, _, hr, .inl ⟨rfl, hI _ _ _ hi3 hb, hl4, hk4⟩⟩
      | ret =>
        obtain ⟨ha3, hi3⟩ := hp
        obtain ⟨W4, hr, hb, hl4, hk4⟩ := fin (some .ret) W3 (by rw [← hW2]; exact ha3)
        exact ⟨_, _, hr, .inr ⟨rfl, .ret, hIx _ _ _ _ hi3 hb, hl4, hk4⟩⟩
      | exit id =>
        obtain ⟨ha3, hi3⟩ := hp
        obtain ⟨W4, hr, hb, hl4, hk4⟩ := fin (some (.exit id)) W3 (by rw [← hW2]; exact ha3)
        exact ⟨_, _, hr, .inr ⟨rfl, .exit id, hIx _ _ _ _ hi3 hb, hl4, hk4⟩⟩
      | goto t =>
        obtain ⟨ha3, hi3⟩ := hp
        obtain ⟨W4, hr, hb, hl4, hk4⟩ := fin (some (.goto t)) W3 (by rw [← hW2]; exact ha3)
        exact ⟨_, _, hr, .inr ⟨rfl, .goto t, hIx _ _ _ _ hi3 hb, hl4, hk4⟩⟩
      | panic ch => exact hp.elim
      | outgrown => exact hp.elim
    · rintro e W2 ⟨⟨v, rfl⟩, (⟨hi, hl, hk⟩ | ⟨pre, c, hi, hl, hk⟩)⟩
      · have hlt := (Array.getElem?_eq_some_iff.1 hl).1
        exact ⟨none, _, by have := run_endLoop (P := P) hl (by rw [hrec]; simp); rw [hrec] at this; exact this, hdone _ _ (Nat.le_refl _) (hI _ _ _ hi (grown_putObj W2 _)) ((World.putObj_heap_other (by omega)).trans hk)⟩
      · have hlt := (Array.getElem?_eq_some_iff.1 hl).1
        exact ⟨some c, _, by have := run_endLoop (P := P) hl (by rw [hrec]; simp); rw [hrec] at this; exact this, hstop _ c pre _ (Nat.le_refl _) (hIx c _ _ _ hi (grown_putObj W2 _)) ((World.putObj_heap_other (by omega)).trans hk)⟩
end
end Go.Proofs.Ytbienlhofkfdpaa
