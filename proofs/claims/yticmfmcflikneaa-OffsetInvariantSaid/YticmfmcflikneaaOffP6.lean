/- Layer 18 (plain): symmetries and moves change neither convexity nor clearances. -/
import Derived.Test.YticmfmcflikneaaOffP4
namespace Go.Proofs.Yticmfmcflikneaa
open Go.RowKit Go.Sort
set_option linter.unusedVariables false

/-- A turn by quarters and a mirror, in plain numbers. -/
def rotP (p : Pt) : Pt := (-p.2, p.1)
def mirP (p : Pt) : Pt := (-p.1, p.2)
/-- What a map of the points must keep. -/
structure Iso (f : Pt → Pt) (e : Int) : Prop where
  one : e = 1 ∨ e = -1
  det : ∀ a b c, det (f a) (f b) (f c) = e * det a b c
  form : ∀ K L : Int, (K ≠ 0 ∨ L ≠ 0) → ∃ K' L' c : Int, (K' ≠ 0 ∨ L' ≠ 0) ∧ (∀ k, octM k K' L' = octM k K L) ∧ ∀ p, lin K' L' (f p) = lin K L p + c
theorem Iso.id : Iso (fun p => p) 1 := ⟨.inl rfl, fun a b c => by omega, fun K L h => ⟨K, L, 0, h, fun _ => rfl, fun p => by omega⟩⟩
theorem Iso.comp {f g : Pt → Pt} {d e : Int} (hf : Iso f d) (hg : Iso g e) : Iso (fun p => f (g p)) (d * e) where
  one := by rcases hf.one with a | a <;> rcases hg.one with b | b <;> rw [a, b] <;> simp
  det := fun a b c => by rw [hf.det, hg.det, Int.mul_assoc]
  form := fun K L h => by
    obtain ⟨K1, L1, c1, h1, o1, e1⟩ := hg.form K L h
    obtain ⟨K2, L2, c2, h2, o2, e2⟩ := hf.form K1 L1 h1
    exact ⟨K2, L2, c1 + c2, h2, fun k => (o2 k).trans (o1 k), fun p => by rw [e2, e1]; omega⟩
theorem Iso.rot : Iso rotP 1 where
  one := .inl rfl
  det := fun a b c => by unfold rotP Go.Proofs.Yticmfmcflikneaa.det; grind
  form := fun K L h => ⟨-L, K, 0, by omega, fun k => by rw [octM_neg1, octM_swap], fun p => by unfold rotP lin; grind⟩
theorem Iso.mir : Iso mirP (-1) where
  one := .inr rfl
  det := fun a b c => by unfold mirP Go.Proofs.Yticmfmcflikneaa.det; grind
  form := fun K L h => ⟨-K, L, 0, by omega, fun k => octM_neg1 _ _ _, fun p => by unfold mirP lin; grind⟩
theorem Iso.move (v : Pt) : Iso (tr v) 1 where
  one := .inl rfl
  det := fun a b c => by rw [det_tr]; omega
  form := fun K L h => ⟨K, L, lin K L v, h, fun _ => rfl, fun p => lin_tr K L v p⟩
def rotPN : Nat → Pt → Pt
  | 0, p => p
  | n + 1, p => rotP (rotPN n p)
theorem Iso.rots : ∀ n, Iso (rotPN n) 1
  | 0 => Iso.id
  | n + 1 => by
    have := Iso.comp Iso.rot (Iso.rots n)
    exact this
def symP (t : Int) (p : Pt) : Pt := rotPN (t.toNat % 4) (if 4 ≤ t then mirP p else p)
def signT (t : Int) : Int := if 4 ≤ t then -1 else 1
theorem Iso.sym (t : Int) : Iso (symP t) (signT t) := by
  unfold symP signT
  by_cases h : 4 ≤ t
  · simp only [if_pos h]
    exact Iso.comp (Iso.rots _) Iso.mir
  · simp only [if_neg h]
    exact Iso.rots _
theorem Iso.chg (t : Int) (v : Pt) : Iso (fun p => tr v (symP t p)) (signT t) := by
  have := Iso.comp (Iso.move v) (Iso.sym t)
  rwa [Int.one_mul] at this
def chgP (t : Int) (v : Pt) (r : List Pt) : List Pt := (if 4 ≤ t then r.reverse else r).map (fun p => tr v (symP t p))
theorem Clear.map {k : Int} {r s : List Pt} {f : Pt → Pt} {e : Int} (hf : Iso f e) (h : Clear k r s) : Clear k (r.map f) (s.map f) := by
  obtain ⟨K, L, hKL, h⟩ := h
  obtain ⟨K', L', c, hKL', ho, hl⟩ := hf.form K L hKL
  refine ⟨K', L', hKL', fun p hp q hq => ?_⟩
  obtain ⟨p0, hp0, rfl⟩ := List.mem_map.1 hp
  obtain ⟨q0, hq0, rfl⟩ := List.mem_map.1 hq
  rw [hl, hl, ho]
  have := h p0 hp0 q0 hq0
  omega
/-- The other way: through forms of the image. -/
structure Back (f : Pt → Pt) : Prop where
  form : ∀ K L : Int, (K ≠ 0 ∨ L ≠ 0) → ∃ K' L' c : Int, (K' ≠ 0 ∨ L' ≠ 0) ∧ (∀ k, octM k K' L' = octM k K L) ∧ ∀ p, lin K L (f p) = lin K' L' p + c
theorem Back.id : Back (fun p => p) := ⟨fun K L h => ⟨K, L, 0, h, fun _ => rfl, fun p => by omega⟩⟩
theorem Back.comp {f g : Pt → Pt} (hf : Back f) (hg : Back g) : Back (fun p => f (g p)) := ⟨fun K L h => by
  obtain ⟨K1, L1, c1, h1, o1, e1⟩ := hf.form K L h
  obtain ⟨K2, L2, c2, h2, o2, e2⟩ := hg.form K1 L1 h1
  exact ⟨K2, L2, c2 + c1, h2, fun k => (o2 k).trans (o1 k), fun p => by rw [e1, e2]; omega⟩⟩
theorem Back.rot : Back rotP := ⟨fun K L h => ⟨L, -K, 0, by omega, fun k => by rw [octM_neg2, octM_swap], fun p => by unfold rotP lin; grind⟩⟩
theorem Back.mir : Back mirP := ⟨fun K L h => ⟨-K, L, 0, by omega, fun k => octM_neg1 _ _ _, fun p => by unfold mirP lin; grind⟩⟩
theorem Back.move (v : Pt) : Back (tr v) := ⟨fun K L h => ⟨K, L, lin K L v, h, fun _ => rfl, fun p => lin_tr K L v p⟩⟩
theorem Back.rots : ∀ n, Back (rotPN n)
  | 0 => Back.id
  | n + 1 => by
    have := Back.comp Back.rot (Back.rots n)
    exact this
theorem Back.chg (t : Int) (v : Pt) : Back (fun p => tr v (symP t p)) := by
  refine Back.comp (Back.move v) ?_
  unfold symP
  by_cases h : 4 ≤ t
  · simp only [if_pos h]
    exact Back.comp (Back.rots _) Back.mir
  · simp only [if_neg h]
    exact Back.rots _
theorem Clear.back {k : Int} {r s : List Pt} {f : Pt → Pt} (hf : Back f) (h : Clear k (r.map f) (s.map f)) : Clear k r s := by
  obtain ⟨K, L, hKL, h⟩ := h
  obtain ⟨K', L', c, hKL', ho, hl⟩ := hf.form K L hKL
  refine ⟨K', L', hKL', fun p hp q hq => ?_⟩
  have := h _ (List.mem_map.2 ⟨p, hp, rfl⟩) _ (List.mem_map.2 ⟨q, hq, rfl⟩)
  rw [hl, hl] at this
  rw [ho]
  omega
theorem Clear.congr {k : Int} {r s r' s' : List Pt} (hr : ∀ p, p ∈ r' ↔ p ∈ r) (hs : ∀ p, p ∈ s' ↔ p ∈ s) (h : Clear k r s) : Clear k r' s' := by
  obtain ⟨K, L, hKL, h⟩ := h
  exact ⟨K, L, hKL, fun p hp q hq => h p ((hr p).1 hp) q ((hs q).1 hq)⟩
theorem chg_mem (t : Int) (v : Pt) (r : List Pt) (p : Pt) : p ∈ chgP t v r ↔ p ∈ r.map (fun p => tr v (symP t p)) := by
  unfold chgP
  split
  · simp
  · exact Iff.rfl
theorem clear_chg {k : Int} (t : Int) (v : Pt) {r s : List Pt} : Clear k (chgP t v r) (chgP t v s) ↔ Clear k r s :=
  ⟨fun h => Clear.back (Back.chg t v) (h.congr (fun p => (chg_mem t v r p).symm) (fun p => (chg_mem t v s p).symm)), fun h => (Clear.map (Iso.chg t v) h).congr (chg_mem t v r) (chg_mem t v s)⟩
theorem at0_rev {r : List Pt} {i : Nat} (hi : i < r.length) : at0 r.reverse i = at0 r (r.length - 1 - i) := at0_reverse hi
theorem rv_rev {r : List Pt} {i : Nat} (hi : i < r.length) : rv r.reverse (i + 1) = at0 r (if i + 1 < r.length then r.length - 2 - i else r.length - 1) := by
  unfold rv
  rw [List.length_reverse]
  by_cases h : i + 1 < r.length
  · rw [if_pos h, Nat.mod_eq_of_lt h, at0_rev h]
    congr 1
    omega
  · rw [if_neg h, show i + 1 = r.length by omega, Nat.mod_self, at0_rev (by omega)]
    rfl
theorem ConvexI.map {r : List Pt} {f : Pt → Pt} (h : ConvexI r) (hf : Iso f 1) : ConvexI (r.map f) := by
  intro i hi k hk h1 h2
  rw [List.length_map] at hi hk h2
  rw [at0_map hi, at0_map hk, rv_map (by omega), hf.det, Int.one_mul]
  exact h i hi k hk h1 h2
theorem ConvexI.mirror {r : List Pt} {f : Pt → Pt} (h : ConvexI r) (hf : Iso f (-1)) : ConvexI (r.reverse.map f) := by
  intro i hi k hk h1 h2
  rw [List.length_map] at hi hk h2
  rw [at0_map hi, at0_map hk, rv_map (by omega), hf.det]
  rw [List.length_reverse] at hi hk h2
  rw [at0_rev hi, at0_rev hk, rv_rev hi]
  by_cases hl : i + 1 < r.length
  · rw [if_pos hl]
    have := h (r.length - 2 - i) (by omega) (r.length - 1 - k) (by omega) (by rw [Nat.mod_eq_of_lt hl] at h2; omega) (by
      rw [Nat.mod_eq_of_lt (by omega)]
      omega)
    rw [show rv r (r.length - 2 - i + 1) = at0 r (r.length - 1 - i) by
      unfold rv
      rw [Nat.mod_eq_of_lt (by omega)]
      congr 1
      omega] at this
    rw [det_swap]
    omega
  · rw [if_neg hl]
    have h2' : k ≠ 0 := by rw [show i + 1 = r.length by omega, Nat.mod_self] at h2; exact h2
    have := h (r.length - 1) (by omega) (r.length - 1 - k) (by omega) (by omega) (by
      rw [show r.length - 1 + 1 = r.length by omega, Nat.mod_self]
      omega)
    rw [show rv r (r.length - 1 + 1) = at0 r (r.length - 1 - i) by
      unfold rv
      rw [show r.length - 1 + 1 = r.length by omega, Nat.mod_self]
      congr 1
      omega] at this
    rw [det_swap]
    omega
theorem rotPN_near {m : Int} : ∀ (n : Nat) {p : Pt}, near m p → near m (rotPN n p)
  | 0, _, h => h
  | n + 1, p, h => by
    have := rotPN_near n h
    unfold rotPN rotP
    unfold near at *
    simp only
    omega
theorem symP_near {m t : Int} {p : Pt} (h : near m p) : near m (symP t p) := by
  unfold symP
  refine rotPN_near _ ?_
  split
  · unfold mirP near at *
    simp only
    omega
  · exact h
theorem chg_near {m n t : Int} {v : Pt} {r : List Pt} (hr : ∀ p ∈ r, near m p) (hv : near n v) : ∀ p ∈ chgP t v r, near (m + n) p := by
  intro p hp
  rw [chg_mem] at hp
  obtain ⟨q, hq, rfl⟩ := List.mem_map.1 hp
  have := symP_near (t := t) (hr q hq)
  unfold tr near at *
  simp only
  omega
theorem chg_convex {t : Int} {v : Pt} {r : List Pt} (h : convexB r = true) (hr : ∀ p ∈ r, near 2000 p) (hv : near 2000 v) : convexB (chgP t v r) = true := by
  obtain ⟨h3, h160, -, hc⟩ := convexB_iff.1 h
  have hl : (chgP t v r).length = r.length := by
    unfold chgP
    split <;> simp
  refine convexB_iff.2 ⟨by omega, by omega, far_any.2 (fun p hp => by have := chg_near hr hv p hp; unfold near at *; omega), ?_⟩
  unfold chgP
  have hi := Iso.chg t v
  unfold signT at hi
  split
  · rw [if_pos ‹_›] at hi
    exact hc.mirror hi
  · rw [if_neg ‹_›] at hi
    exact hc.map hi
theorem tame_chg {t : Int} {v : Pt} {l : List (List Pt)} (h : Tame l) (hn : ∀ r ∈ l, ∀ p ∈ r, near 2000 p) (hv : near 2000 v) : Tame (l.map (chgP t v)) := by
  refine ⟨by rw [List.length_map]; exact h.1, fun r hr => ?_⟩
  obtain ⟨r0, hr0, rfl⟩ := List.mem_map.1 hr
  obtain ⟨a, b, -⟩ := h.2 r0 hr0
  refine ⟨chg_convex a (hn r0 hr0) hv, ?_, fun p hp => ?_⟩
  · have : (chgP t v r0).length = r0.length := by
      unfold chgP
      split <;> simp
    omega
  · have := chg_near (hn r0 hr0) hv p hp
    exact this
theorem apart_chg {t k : Int} {v : Pt} (h0 : 0 ≤ k) (h2 : k ≤ 200) {a b : List (List Pt)} (ha : Tame a) (hb : Tame b) (na : ∀ r ∈ a, ∀ p ∈ r, near 2000 p) (nb : ∀ r ∈ b, ∀ p ∈ r, near 2000 p) (hv : near 2000 v) : apartV (a.map (chgP t v)) (b.map (chgP t v)) k = apartV a b k := by
  obtain ⟨a1, a2⟩ := tame_apart h0 h2 ha hb
  obtain ⟨b1, b2⟩ := tame_apart h0 h2 (tame_chg (t := t) ha na hv) (tame_chg (t := t) hb nb hv)
  refine Prod.ext ?_ (by rw [a1, b1])
  rw [Bool.eq_iff_iff, a2, b2]
  constructor
  · intro h r hr s hs
    exact (clear_chg t v).1 (h _ (List.mem_map.2 ⟨r, hr, rfl⟩) _ (List.mem_map.2 ⟨s, hs, rfl⟩))
  · intro h r hr s hs
    obtain ⟨r0, hr0, rfl⟩ := List.mem_map.1 hr
    obtain ⟨s0, hs0, rfl⟩ := List.mem_map.1 hs
    exact (clear_chg t v).2 (h r0 hr0 s0 hs0)
theorem gap_chg {t m : Int} {v : Pt} (h0 : 0 ≤ m) (h2 : m ≤ 200) {a b : List (List Pt)} (ha : Tame a) (hb : Tame b) (na : ∀ r ∈ a, ∀ p ∈ r, near 2000 p) (nb : ∀ r ∈ b, ∀ p ∈ r, near 2000 p) (hv : near 2000 v) : gapV (a.map (chgP t v)) (b.map (chgP t v)) m = gapV a b m :=
  gap_congr (fun k hk hkm => apart_chg hk (by omega) ha hb na nb hv) h0
end Go.Proofs.Yticmfmcflikneaa
