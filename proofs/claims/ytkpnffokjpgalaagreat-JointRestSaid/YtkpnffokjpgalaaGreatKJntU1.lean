/- Layer 46: the gaps of Gaps, edge by edge. -/
import Derived.Test.YtkpnffokjpgalaaGreatKJntS1
import Derived.Test.YtkpnffokjpgalaaGreatKJntR3
import Derived.Test.YtkpnffokjpgalaaGreatKJnt29
import Derived.Test.YtkpnffokjpgalaaGreatKJnt34
namespace Go.Proofs.YtkpnffokjpgalaaGreat
set_option linter.unusedVariables false
set_option linter.unusedSimpArgs false
open Go.RowKit Go.Sort

theorem filt_one {l : List Int} (h : l.Nodup) (a : Int) : (l.filter fun i => decide (i = a)) = if a ∈ l then [a] else [] := by
  induction l with
  | nil => simp
  | cons x l ih =>
    rw [List.nodup_cons] at h
    have := ih h.2
    by_cases e : x = a
    · subst e
      rw [List.filter_cons_of_pos (by simp), this, if_neg h.1, if_pos (List.mem_cons_self)]
    · rw [List.filter_cons_of_neg (by simpa using e), this]
      by_cases m : a ∈ l
      · rw [if_pos m, if_pos (List.mem_cons_of_mem _ m)]
      · rw [if_neg m, if_neg (by rw [List.mem_cons]; exact fun q => q.elim (fun q => e q.symm) m)]
theorem gapOf_along {s : SegP} (hs : IsSegN s) (h : 3 ≤ stepsI s) : alongB s (gapOf s) = true ∧ gpK s (gapOf s) = ((stepsI s - 1) / 2, (stepsI s - 1) / 2 + 1) := by
  have hsk : stepsI s = stepsK s.1 s.2 := by unfold stepsI; rw [if_pos (segN_ok hs)]
  have e : gpK s (gapOf s) = ((stepsI s - 1) / 2, (stepsI s - 1) / 2 + 1) := by
    unfold gpK gapOf
    rw [place_point hs.1, place_point hs.1]
  exact ⟨(along_iff hs).2 ⟨_, _, by omega, by omega, by omega, e, rfl⟩, e⟩
theorem gapsL_parts {S : List SegP} {m : Nat} {G : List SegP} (h : gapsL S m = (G, 0)) :
    G = (pickI (keyQ S) S.length m).map (gapAt S) ∧ (∀ i ∈ pickI (keyQ S) S.length m, 3 ≤ keyQ S i) ∧ (pickI (keyQ S) S.length m).length = m := by
  unfold gapsL at h
  split at h
  · rename_i q
    rw [Bool.and_eq_true, List.all_eq_true, decide_eq_true_eq] at q
    injection h with h1 h2
    have q1 : ∀ i ∈ pickI (keyQ S) S.length m, 3 ≤ keyQ S i := fun i hi => of_decide_eq_true (q.1 i hi)
    refine ⟨h1.symm, q1, ?_⟩
    have hm : m ≤ (longI (keyQ S) S.length).length := by
      apply Classical.byContradiction
      intro hc
      have := pick_few (E := keyQ S) (n := S.length) (m := m) (by omega) q1
      omega
    refine (pick_long hm (L := (longI (keyQ S) S.length).mergeSort fun x y => !ltI (keyQ S) y x) (List.mergeSort_perm _ _) ?_).1
    have hp := List.pairwise_mergeSort (le := fun x y => !ltI (keyQ S) y x) (fun a b c h1 h2 => by
      unfold ltI at *
      simp only [Bool.not_eq_true', decide_eq_false_iff_not] at *
      omega) (fun a b => by
      unfold ltI
      simp only [Bool.or_eq_true, Bool.not_eq_true', decide_eq_false_iff_not]
      omega) (longI (keyQ S) S.length)
    exact hp.imp fun h => by simpa using h
  · injection h with h1 h2
    cases h2
theorem gapAt_get {S : List SegP} {j : Nat} (hj : j < S.length) : gapAt S (j : Int) = gapOf S[j] := by
  unfold gapAt
  rw [Int.toNat_natCast, List.getD_eq_getElem?_getD, List.getElem?_eq_getElem hj, Option.getD_some]
theorem keyQ_get {S : List SegP} {j : Nat} (hj : j < S.length) : keyQ S (j : Int) = stepsI S[j] := by
  unfold keyQ
  rw [Int.toNat_natCast, List.getD_eq_getElem?_getD, List.getElem?_eq_getElem hj, Option.getD_some]
theorem gap_at_along {r : List Pt} (hok : okB r = true) {i : Int} (h0 : 0 ≤ i ∧ i < (edgesV r).length) (h3 : 3 ≤ keyQ (edgesV r) i) {j : Nat} (hj : j < (edgesV r).length) : alongB (edgesV r)[j] (gapAt (edgesV r) i) = decide (i = (j : Int)) := by
  obtain ⟨k, rfl⟩ : ∃ k : Nat, i = k := ⟨i.toNat, by omega⟩
  have hk : k < (edgesV r).length := by omega
  have hN := (okB_edgeN hok).2
  rw [keyQ_get hk] at h3
  have h1 := (gapOf_along (hN _ (List.getElem_mem hk)) h3).1
  rw [gapAt_get hk]
  by_cases e : k = j
  · subst e
    rw [h1, decide_eq_true rfl]
  · rw [decide_eq_false (by omega)]
    cases h2 : alongB (edgesV r)[j] (gapOf (edgesV r)[k]) with
    | false => rfl
    | true => exact absurd (along_one hok hk hj h1 h2) e
/-- One gap on an edge at most. -/
theorem found_one {r : List Pt} (hok : okB r = true) {m : Nat} {G : List SegP} (h : gapsL (edgesV r) m = (G, 0)) {j : Nat} (hj : j < (edgesV r).length) :
    foundP (edgesV r)[j] G = if (j : Int) ∈ pickI (keyQ (edgesV r)) (edgesV r).length m then [gpK (edgesV r)[j] (gapOf (edgesV r)[j])] else [] := by
  obtain ⟨h1, h2, -⟩ := gapsL_parts h
  subst h1
  unfold foundP
  rw [List.filter_map, List.map_map]
  have e : (pickI (keyQ (edgesV r)) (edgesV r).length m).filter ((fun g => alongB (edgesV r)[j] g) ∘ gapAt (edgesV r)) = (pickI (keyQ (edgesV r)) (edgesV r).length m).filter fun i => decide (i = (j : Int)) :=
    List.filter_congr fun i hi => gap_at_along hok (pickI_mem.1 hi).1 (h2 i hi) hj
  rw [e, filt_one (asc_nodup (pickI_asc _ _ _))]
  split
  · rw [List.map_singleton]
    show [gpK _ (gapAt (edgesV r) (j : Int))] = _
    rw [gapAt_get hj]
  · rfl
/-- The gaps are proper. -/
theorem gaps_proper {r : List Pt} (hok : okB r = true) {m : Nat} {G : List SegP} (h : gapsL (edgesV r) m = (G, 0)) : properB (edgesV r) G = true := by
  unfold properB
  rw [Bool.and_eq_true, List.all_eq_true, List.all_eq_true]
  constructor
  · intro g hg
    obtain ⟨h1, h2, -⟩ := gapsL_parts h
    rw [h1, List.mem_map] at hg
    obtain ⟨i, hi, rfl⟩ := hg
    have hb := (pickI_mem.1 hi).1
    obtain ⟨k, rfl⟩ : ∃ k : Nat, i = k := ⟨i.toNat, by omega⟩
    have hk : k < (edgesV r).length := by omega
    rw [List.any_eq_true]
    exact ⟨_, List.getElem_mem hk, by rw [gap_at_along hok hb (h2 _ hi) hk, decide_eq_true rfl]⟩
  · intro s hs
    obtain ⟨j, hj, rfl⟩ := List.mem_iff_getElem.1 hs
    rw [found_one hok h hj]
    split <;> simp [apartP]
end Go.Proofs.YtkpnffokjpgalaaGreat
/- Layer 46: what a walk around a ring sums up to. -/
namespace Go.Proofs.YtkpnffokjpgalaaGreat
set_option linter.unusedVariables false
set_option linter.unusedSimpArgs false
open Go.RowKit Go.Sort

def alongK : List Pt → Int
  | a :: b :: l => nrmK (a, b) + alongK (b :: l)
  | _ => 0
theorem alongK_snoc : ∀ (P : List Pt) (a p : Pt), P.getLast? = some a → alongK (P ++ [p]) = alongK P + nrmK (a, p)
  | [], a, p, h => by simp at h
  | [x], a, p, h => by
    simp at h
    subst h
    simp [alongK]
  | x :: y :: l, a, p, h => by
    rw [List.getLast?_cons_cons] at h
    have := alongK_snoc (y :: l) a p h
    show nrmK (x, y) + alongK ((y :: l) ++ [p]) = nrmK (x, y) + alongK (y :: l) + nrmK (a, p)
    rw [this, Int.add_assoc]
def vnK (s : SegP) : Int := imax (abK (dirK s.1 s.2).1) (abK (dirK s.1 s.2).2)
theorem span_nrm (s : SegP) {i j : Int} (h : i ≤ j) : nrmK (pointK s.1 s.2 i, pointK s.1 s.2 j) = vnK s * (j - i) := by
  unfold nrmK pointK vnK
  simp only
  rw [show s.1.1 + (dirK s.1 s.2).1 * j - (s.1.1 + (dirK s.1 s.2).1 * i) = (dirK s.1 s.2).1 * (j - i) by grind, show s.1.2 + (dirK s.1 s.2).2 * j - (s.1.2 + (dirK s.1 s.2).2 * i) = (dirK s.1 s.2).2 * (j - i) by grind, abK_mul (by omega), abK_mul (by omega), imax_mul (by omega)]
theorem edge_nrm (s : SegP) : nrmK s = vnK s * stepsK s.1 s.2 := by
  have h := span_nrm s (stepsK_nonneg s.1 s.2)
  rw [pointK_0, pointK_steps, Int.sub_zero] at h
  exact h
def sumP (L : List (List Pt)) : Int := (L.map alongK).sum
theorem sumP_cons (P : List Pt) (L : List (List Pt)) : sumP (P :: L) = alongK P + sumP L := by unfold sumP; rw [List.map_cons, List.sum_cons]
theorem sumP_append (L M : List (List Pt)) : sumP (L ++ M) = sumP L + sumP M := by unfold sumP; rw [List.map_append, List.sum_append]
def gapSum (s : SegP) (F : List (Int × Int)) : Int := (F.map fun c => vnK s * (c.2 - c.1)).sum
theorem cut_sum (s : SegP) : ∀ (F : List (Int × Int)) (P : List Pt) (a : Int), P.getLast? = some (pointK s.1 s.2 a) → a ≤ stepsK s.1 s.2 → (∀ c ∈ F, a ≤ c.1 ∧ c.1 ≤ c.2 ∧ c.2 ≤ stepsK s.1 s.2) → (F.Pairwise fun a b => a.2 < b.1) →
    sumP (cutP s F P).1 + alongK (cutP s F P).2 + gapSum s F = alongK P + vnK s * (stepsK s.1 s.2 - a) ∧ (cutP s F P).2.getLast? = some s.2 ∧ (cutP s F P).1.length = F.length ∧ (∀ Q ∈ (cutP s F P).1, 2 ≤ Q.length) ∧ 2 ≤ (cutP s F P).2.length ∧ ((cutP s F P).1 ++ [(cutP s F P).2]).head?.bind List.head? = P.head?
  | [], P, a, hP, ha, hF, hs => by
    have e := alongK_snoc P _ s.2 hP
    have q := span_nrm s ha
    rw [pointK_steps] at q
    rw [q] at e
    have hne : P ≠ [] := by rintro rfl; simp at hP
    have hl : 0 < P.length := List.length_pos_iff.2 hne
    refine ⟨?_, ?_, rfl, ?_, ?_, ?_⟩
    · show sumP [] + alongK (P ++ [s.2]) + gapSum s [] = _
      rw [e]
      simp [sumP, gapSum]
    · show (P ++ [s.2]).getLast? = _
      simp
    · intro Q hQ
      simp [cutP] at hQ
    · show 2 ≤ (P ++ [s.2]).length
      simp
      omega
    · obtain ⟨x, l, rfl⟩ := List.exists_cons_of_ne_nil hne
      simp [cutP]
  | c :: l, P, a, hP, ha, hF, hs => by
    have hc := hF c List.mem_cons_self
    rw [List.pairwise_cons] at hs
    have ih := cut_sum s l [pointK s.1 s.2 c.2] c.2 rfl hc.2.2 (fun d hd => ⟨Int.le_of_lt (hs.1 d hd), (hF d (List.mem_cons_of_mem _ hd)).2⟩) hs.2
    have e := alongK_snoc P _ (pointK s.1 s.2 c.1) hP
    rw [span_nrm s hc.1] at e
    have hne : P ≠ [] := by rintro rfl; simp at hP
    have hl : 0 < P.length := List.length_pos_iff.2 hne
    refine ⟨?_, ih.2.1, ?_, ?_, ih.2.2.2.2.1, ?_⟩
    · show sumP ((P ++ [pointK s.1 s.2 c.1]) :: (cutP s l [pointK s.1 s.2 c.2]).1) + alongK (cutP s l [pointK s.1 s.2 c.2]).2 + gapSum s (c :: l) = _
      have h1 := ih.1
      have h0 : alongK [pointK s.1 s.2 c.2] = 0 := rfl
      have hg : gapSum s (c :: l) = vnK s * (c.2 - c.1) + gapSum s l := by unfold gapSum; rw [List.map_cons, List.sum_cons]
      rw [sumP_cons, e, hg]
      rw [h0] at h1
      simp only [Int.mul_sub] at *
      omega
    · show ((P ++ [pointK s.1 s.2 c.1]) :: (cutP s l [pointK s.1 s.2 c.2]).1).length = _
      rw [List.length_cons, ih.2.2.1, List.length_cons]
    · intro Q hQ
      rcases List.mem_cons.1 (show Q ∈ (P ++ [pointK s.1 s.2 c.1]) :: (cutP s l [pointK s.1 s.2 c.2]).1 from hQ) with h | h
      · rw [h]; simp; omega
      · exact ih.2.2.2.1 Q h
    · obtain ⟨x, l', rfl⟩ := List.exists_cons_of_ne_nil hne
      simp [cutP]
/-- Edges that follow one another. -/
def linkP : Pt → List (SegP × List (Int × Int)) → Pt → Prop
  | a, [], z => a = z
  | a, e :: t, z => e.1.1 = a ∧ linkP e.1.2 t z
def goodE (e : SegP × List (Int × Int)) : Prop := (∀ c ∈ e.2, 0 ≤ c.1 ∧ c.1 ≤ c.2 ∧ c.2 ≤ stepsK e.1.1 e.1.2) ∧ e.2.Pairwise fun a b => a.2 < b.1
theorem walk_sum : ∀ (T : List (SegP × List (Int × Int))) (P : List Pt) (a z : Pt), linkP a T z → (∀ e ∈ T, goodE e) → P.getLast? = some a →
    sumP (walkP T P) + (T.map fun e => gapSum e.1 e.2).sum = alongK P + (T.map fun e => nrmK e.1).sum ∧ (walkP T P).length = 1 + (T.map fun e => e.2.length).sum ∧ ((T ≠ [] ∨ 2 ≤ P.length) → ∀ Q ∈ walkP T P, 2 ≤ Q.length) ∧ (walkP T P).getLast?.bind List.getLast? = some z ∧ (walkP T P).head?.bind List.head? = P.head?
  | [], P, a, z, hl, hg, hP => by
    have hz : a = z := hl
    subst hz
    refine ⟨by simp [walkP, sumP], by simp [walkP], ?_, by simpa [walkP] using hP, by simp [walkP]⟩
    intro h Q hQ
    simp [walkP] at hQ
    rw [hQ]
    rcases h with h | h
    · exact absurd rfl h
    · exact h
  | e :: t, P, a, z, hl, hg, hP => by
    obtain ⟨ea, hl2⟩ := hl
    have hge := hg e List.mem_cons_self
    have hc := cut_sum e.1 e.2 P 0 (by rw [pointK_0, ea]; exact hP) (stepsK_nonneg _ _) hge.1 hge.2
    have ih := walk_sum t (cutP e.1 e.2 P).2 e.1.2 z hl2 (fun d hd => hg d (List.mem_cons_of_mem _ hd)) hc.2.1
    have hw : walkP (e :: t) P = (cutP e.1 e.2 P).1 ++ walkP t (cutP e.1 e.2 P).2 := rfl
    have hne : walkP t (cutP e.1 e.2 P).2 ≠ [] := by intro q; have := ih.2.1; rw [q] at this; simp at this; omega
    rw [hw]
    refine ⟨?_, ?_, ?_, ?_, ?_⟩
    · have h1 := hc.1
      have h2 := ih.1
      have h3 := edge_nrm e.1
      rw [sumP_append, List.map_cons, List.sum_cons, List.map_cons, List.sum_cons]
      rw [Int.sub_zero] at h1
      omega
    · rw [List.length_append, hc.2.2.1, ih.2.1, List.map_cons, List.sum_cons]
      omega
    · intro _ Q hQ
      rcases List.mem_append.1 hQ with h | h
      · exact hc.2.2.2.1 Q h
      · exact ih.2.2.1 (.inr hc.2.2.2.2.1) Q h
    · rw [List.getLast?_append]
      have := ih.2.2.2.1
      cases q : (walkP t (cutP e.1 e.2 P).2).getLast? with
      | none => rw [q] at this; simp at this
      | some y => rw [q] at this; simpa using this
    · have h1 := hc.2.2.2.2.2
      have h2 := ih.2.2.2.2
      cases q : (cutP e.1 e.2 P).1 with
      | nil =>
        rw [q] at h1
        rw [List.nil_append, h2]
        simpa using h1
      | cons y l =>
        rw [q] at h1
        simpa using h1
end Go.Proofs.YtkpnffokjpgalaaGreat
/- Layer 46: JointRest, plain. -/
namespace Go.Proofs.YtkpnffokjpgalaaGreat
set_option linter.unusedVariables false
set_option linter.unusedSimpArgs false
open Go.RowKit Go.Sort

theorem found_good {r : List Pt} (hok : okB r = true) {m : Nat} {G : List SegP} (h : gapsL (edgesV r) m = (G, 0)) {j : Nat} (hj : j < (edgesV r).length) :
    sortP (foundP (edgesV r)[j] G) = (if (j : Int) ∈ pickI (keyQ (edgesV r)) (edgesV r).length m then [gpK (edgesV r)[j] (gapOf (edgesV r)[j])] else []) ∧ goodE ((edgesV r)[j], sortP (foundP (edgesV r)[j] G)) := by
  have hN := (okB_edgeN hok).2 _ (List.getElem_mem hj)
  have e : sortP (foundP (edgesV r)[j] G) = if (j : Int) ∈ pickI (keyQ (edgesV r)) (edgesV r).length m then [gpK (edgesV r)[j] (gapOf (edgesV r)[j])] else [] := by
    rw [found_one hok h hj]
    split <;> simp [sortP]
  refine ⟨e, ?_, ?_⟩
  · intro c hc
    have := foundP_in hN ((sortP_perm _).mem_iff.1 hc)
    show 0 ≤ c.1 ∧ c.1 ≤ c.2 ∧ c.2 ≤ stepsK (edgesV r)[j].1 (edgesV r)[j].2
    omega
  · show (sortP (foundP (edgesV r)[j] G)).Pairwise _
    rw [e]
    split <;> simp
/-- A sum around a ring does not depend on its beginning. -/
theorem sum_turn (f : Nat → Int) (n : Nat) (hn : 0 < n) : ∀ k, ((List.range n).map fun i => f ((k + i) % n)).sum = ((List.range n).map f).sum
  | 0 => by
    congr 1
    apply List.map_congr_left
    intro i hi
    rw [List.mem_range] at hi
    rw [Nat.zero_add, Nat.mod_eq_of_lt hi]
  | k + 1 => by
    rw [← sum_turn f n hn k]
    obtain ⟨p, rfl⟩ : ∃ p, n = p + 1 := ⟨n - 1, by omega⟩
    rw [List.range_succ, List.map_append, List.sum_append]
    have h1 := List.range_succ_eq_map (n := p)
    rw [← List.range_succ, h1]
    simp only [List.map_map, List.map_cons, List.map_nil, List.sum_cons, List.sum_nil, Function.comp_def, Nat.add_zero, Int.add_zero]
    rw [show (k + 1 + p) % (p + 1) = k % (p + 1) by rw [show k + 1 + p = k + (p + 1) by omega, Nat.add_mod_right]]
    have h2 : (List.range p).map (fun i => f ((k + 1 + i) % (p + 1))) = (List.range p).map (fun x => f ((k + x.succ) % (p + 1))) := by
      apply List.map_congr_left
      intro i _
      rw [show k + 1 + i = k + i.succ by omega]
    rw [h2]
    omega
end Go.Proofs.YtkpnffokjpgalaaGreat
/- Layer 46: JointRest, plain: the rest and the gaps make up the ring. -/
namespace Go.Proofs.YtkpnffokjpgalaaGreat
set_option linter.unusedVariables false
set_option linter.unusedSimpArgs false
open Go.RowKit Go.Sort

theorem sum_turnN (f : Nat → Nat) (n : Nat) (hn : 0 < n) : ∀ k, ((List.range n).map fun i => f ((k + i) % n)).sum = ((List.range n).map f).sum
  | 0 => by
    congr 1
    apply List.map_congr_left
    intro i hi
    rw [List.mem_range] at hi
    rw [Nat.zero_add, Nat.mod_eq_of_lt hi]
  | k + 1 => by
    rw [← sum_turnN f n hn k]
    obtain ⟨p, rfl⟩ : ∃ p, n = p + 1 := ⟨n - 1, by omega⟩
    rw [List.range_succ, List.map_append, List.sum_append]
    have h1 := List.range_succ_eq_map (n := p)
    rw [← List.range_succ, h1]
    simp only [List.map_map, List.map_cons, List.map_nil, List.sum_cons, List.sum_nil, Function.comp_def, Nat.add_zero]
    rw [show (k + 1 + p) % (p + 1) = k % (p + 1) by rw [show k + 1 + p = k + (p + 1) by omega, Nat.add_mod_right]]
    have h2 : (List.range p).map (fun i => f ((k + 1 + i) % (p + 1))) = (List.range p).map (fun x => f ((k + x.succ) % (p + 1))) := by
      apply List.map_congr_left
      intro i _
      rw [show k + 1 + i = k + i.succ by omega]
    rw [h2]
    omega
theorem sum_pick (p : Int → Bool) (v : Int → Int) : ∀ l : List Nat, (((l.map fun i : Nat => (i : Int)).filter p).map v).sum = (l.map fun i : Nat => if p (i : Int) = true then v (i : Int) else 0).sum
  | [] => rfl
  | x :: l => by
    have ih := sum_pick p v l
    rw [List.map_cons, List.map_cons, List.sum_cons, ← ih]
    by_cases h : p (x : Int) = true
    · rw [List.filter_cons_of_pos h, List.map_cons, List.sum_cons, if_pos h]
    · rw [List.filter_cons_of_neg h, if_neg h, Int.zero_add]
theorem len_pick (p : Int → Bool) : ∀ l : List Nat, ((l.map fun i : Nat => (i : Int)).filter p).length = (l.map fun i : Nat => if p (i : Int) = true then 1 else 0).sum
  | [] => rfl
  | x :: l => by
    have ih := len_pick p l
    rw [List.map_cons, List.map_cons, List.sum_cons, ← ih]
    by_cases h : p (x : Int) = true
    · rw [List.filter_cons_of_pos h, List.length_cons, if_pos h]; omega
    · rw [List.filter_cons_of_neg h, if_neg h]; omega
theorem edges_range (E : List SegP) : (List.range E.length).map (edgeAt E) = E := by
  apply List.ext_getElem
  · simp
  · intro i h1 h2
    rw [List.getElem_map, List.getElem_range, edgeAt_get h2]
theorem one_gap (s : SegP) : gapSum s [gpK s (gapOf s)] = nrmK (gapOf s) ∨ s.1 = s.2 := by
  by_cases h : s.1 = s.2
  · exact .inr h
  · refine .inl ?_
    have e : gpK s (gapOf s) = ((stepsI s - 1) / 2, (stepsI s - 1) / 2 + 1) := by
      unfold gpK gapOf
      rw [place_point h, place_point h]
    rw [e]
    unfold gapOf
    rw [span_nrm s (by omega)]
    simp [gapSum]
theorem link_tour {r : List Pt} (h3 : 3 ≤ r.length) (G : List SegP) {k : Nat} (hk : k < r.length) : ∀ j n, n + j = r.length → linkP (at0 r ((k + n) % r.length)) ((tourP (edgesV r) G k).drop n) (at0 r k)
  | 0, n, e => by
    obtain rfl : n = r.length := by omega
    have := tourP_end (edgesV r) G k
    rw [edgesV_len (by omega)] at this
    rw [this]
    show at0 r ((k + r.length) % r.length) = at0 r k
    rw [Nat.add_mod_right, Nat.mod_eq_of_lt hk]
  | j + 1, n, e => by
    have hl : (edgesV r).length = r.length := edgesV_len (by omega)
    have ih := link_tour h3 G hk j (n + 1) (by omega)
    rw [tourP_drop (by omega)]
    have hq : (k + n) % r.length < r.length := Nat.mod_lt _ (by omega)
    have he : (tourAt (edgesV r) G k n).1 = (at0 r ((k + n) % r.length), rv r ((k + n) % r.length + 1)) := by
      show edgeAt (edgesV r) ((k + n) % (edgesV r).length) = _
      rw [hl, edgeAt_get (by omega), edgesV_at (by omega) hq]
    refine ⟨by rw [he], ?_⟩
    rw [he]
    show linkP (rv r ((k + n) % r.length + 1)) _ _
    unfold rv
    rw [Nat.mod_add_mod]
    exact ih
theorem rest_plain {r : List Pt} (hok : okB r = true) {m : Nat} {G : List SegP} (h : gapsL (edgesV r) m = (G, 0)) {k : Nat} (hk : k < r.length) :
    G.length = m ∧ (walkP (tourP (edgesV r) G k) [at0 r k]).length = m + 1 ∧ sumP (walkP (tourP (edgesV r) G k) [at0 r k]) + lsum G = lsum (edgesV r) ∧ (∀ Q ∈ walkP (tourP (edgesV r) G k) [at0 r k], 2 ≤ Q.length) ∧
    (walkP (tourP (edgesV r) G k) [at0 r k]).getLast?.bind List.getLast? = some (at0 r k) ∧ (walkP (tourP (edgesV r) G k) [at0 r k]).head?.bind List.head? = some (at0 r k) := by
  have h3 := (okB_iff.1 hok).three
  have hl : (edgesV r).length = r.length := edgesV_len (by omega)
  have hN := (okB_edgeN hok).2
  obtain ⟨g1, g2, g3⟩ := gapsL_parts h
  have hGm : G.length = m := by rw [g1, List.length_map, g3]
  have hlink := link_tour h3 G hk r.length 0 (by omega)
  rw [Nat.add_zero, Nat.mod_eq_of_lt hk, List.drop_zero] at hlink
  have hgood : ∀ e ∈ tourP (edgesV r) G k, goodE e := fun e he => by
    unfold tourP at he
    rw [List.mem_map] at he
    obtain ⟨i, hi, rfl⟩ := he
    have hq : (k + i) % (edgesV r).length < (edgesV r).length := Nat.mod_lt _ (by omega)
    unfold tourAt
    rw [edgeAt_get hq]
    exact (found_good hok h hq).2
  have hw := walk_sum (tourP (edgesV r) G k) [at0 r k] (at0 r k) (at0 r k) hlink hgood rfl
  have hne : tourP (edgesV r) G k ≠ [] := by
    intro e
    have := congrArg List.length e
    unfold tourP at this
    rw [List.length_map, List.length_range, List.length_nil] at this
    omega
  have s1 : ((tourP (edgesV r) G k).map fun e => nrmK e.1).sum = lsum (edgesV r) := by
    have := sum_turn (fun q => nrmK (edgeAt (edgesV r) q)) (edgesV r).length (by omega) k
    unfold tourP
    rw [List.map_map]
    refine this.trans ?_
    unfold lsum
    conv => rhs; rw [← edges_range (edgesV r)]
    rw [List.map_map]
    rfl
  have fnd : ∀ q ∈ List.range (edgesV r).length, sortP (foundP (edgeAt (edgesV r) q) G) = if decide (aheadI (keyQ (edgesV r)) (edgesV r).length (q : Int) < m) = true then [gpK (edgeAt (edgesV r) q) (gapOf (edgeAt (edgesV r) q))] else [] := fun q hq => by
    rw [List.mem_range] at hq
    rw [edgeAt_get hq, (found_good hok h hq).1]
    by_cases e : aheadI (keyQ (edgesV r)) (edgesV r).length (q : Int) < m
    · rw [if_pos (pickI_mem.2 ⟨⟨by omega, by omega⟩, e⟩), if_pos (decide_eq_true e)]
    · rw [if_neg (fun c => e (pickI_mem.1 c).2), if_neg (fun c => e (of_decide_eq_true c))]
  have s2 : ((tourP (edgesV r) G k).map fun e => gapSum e.1 e.2).sum = lsum G := by
    have := sum_turn (fun q => gapSum (edgeAt (edgesV r) q) (sortP (foundP (edgeAt (edgesV r) q) G))) (edgesV r).length (by omega) k
    unfold tourP
    rw [List.map_map]
    refine this.trans ?_
    have e : lsum G = (((pickI (keyQ (edgesV r)) (edgesV r).length m)).map (nrmK ∘ gapAt (edgesV r))).sum := by
      conv => lhs; rw [g1]
      unfold lsum
      rw [List.map_map]
    rw [e]
    unfold pickI idxs
    rw [sum_pick]
    congr 1
    apply List.map_congr_left
    intro q hq
    rw [fnd q hq]
    rw [List.mem_range] at hq
    split
    · show _ = nrmK (gapAt (edgesV r) (q : Int))
      rw [gapAt_get hq, edgeAt_get hq]
      exact (one_gap _).resolve_right (hN _ (List.getElem_mem hq)).1
    · rfl
  have s3 : ((tourP (edgesV r) G k).map fun e => e.2.length).sum = m := by
    have := sum_turnN (fun q => (sortP (foundP (edgeAt (edgesV r) q) G)).length) (edgesV r).length (by omega) k
    unfold tourP
    rw [List.map_map]
    refine this.trans ?_
    have e : m = (pickI (keyQ (edgesV r)) (edgesV r).length m).length := g3.symm
    conv => rhs; rw [e]
    unfold pickI idxs
    rw [len_pick]
    congr 1
    apply List.map_congr_left
    intro q hq
    rw [fnd q hq]
    split <;> rfl
  refine ⟨hGm, by rw [hw.2.1, s3]; omega, ?_, hw.2.2.1 (.inl hne), hw.2.2.2.1, hw.2.2.2.2⟩
  have := hw.1
  rw [s1, s2] at this
  rw [this]
  show alongK [at0 r k] + _ = _
  simp [alongK]
end Go.Proofs.YtkpnffokjpgalaaGreat
/- Layer 46: along and around of the law. -/
namespace Go.Proofs.YtkpnffokjpgalaaGreat
set_option linter.unusedVariables false
set_option linter.unusedSimpArgs false
open Go.RowKit Go.Sort
attribute [local go_sem ↓] Go.wp_at_zero Go.wp_at_succ

set_option maxRecDepth 100000 in
set_option maxHeartbeats 8000000 in
theorem aroundU_any (A : Option Addr) (c : Nat) (r : List (Int × Int)) (w : World) (h : IsVecs w A c r) (hlen : r.length ≤ 100000) :
    Yields Tryz.prog 31 #[.slice A r.length c] w (.int .i64 (lenE (edgesV r))) := by
  apply Yields.ret
  have ED := fun W (hW : SinceOf w W) => refEdges_any A c r W (h.of hW) hlen
  have hl := edgesV_len_le r
  clear h
  go_enter Tryz.func31, Tryz.ntmps31
  go_wp2_with fail
  refine (ED _ (by (repeat (first | (with_reducible exact SinceOf.refl _) | (with_reducible assumption) | (with_reducible refine SinceOf.alloc ?_ _) | (with_reducible refine SinceOf.drew ?_) | (with_reducible refine SinceOf.drewN ?_ _) | (with_reducible refine SinceOf.later ?_ _) | (with_reducible refine SinceOf.further ?_ _) | (with_reducible refine SinceOf.setCell ?_ (by first | exact Nat.le_refl _ | (simp; done) | omega | (simp; omega)) _))))).mono ?_
  rintro e _ ⟨A8, c8, rfl, ho8, ⟨x1, rfl⟩⟩
  have RL := refLength_any A8 c8 (edgesV r) x1.wd (ho8.isRow encE_len) (by omega)
  clear ho8 ED
  go_wp2_with fail
  refine RL.calls.mono ?_
  rintro e _ ⟨rfl, x2, rfl⟩
  go_wp2_with fail
  go_returns
  exact ⟨rfl, by (repeat (first | (with_reducible exact SinceOf.refl _) | (with_reducible assumption) | (with_reducible refine SinceOf.alloc ?_ _) | (with_reducible refine SinceOf.drew ?_) | (with_reducible refine SinceOf.drewN ?_ _) | (with_reducible refine SinceOf.later ?_ _) | (with_reducible refine SinceOf.further ?_ _) | (with_reducible refine SinceOf.setCell ?_ (by first | exact Nat.le_refl _ | (simp; done) | omega | (simp; omega)) _)))⟩
/-- The legs of a path. -/
def legsP (P : List Pt) : List SegP := (List.range (P.length - 1)).map fun i => (at0 P i, at0 P (i + 1))
theorem legsP_len (P : List Pt) : (legsP P).length = P.length - 1 := by simp [legsP]
theorem legsP_at (P : List Pt) {i : Nat} (h : i < (legsP P).length) : (legsP P)[i] = (at0 P i, at0 P (i + 1)) := by simp [legsP]
set_option maxRecDepth 100000 in
set_option maxHeartbeats 16000000 in
theorem alongU_any (A : Option Addr) (c : Nat) (l : List (Int × Int)) (w : World) (h : IsVecs w A c l) (hlen : l.length < 4611686018427387904) (h2 : 2 ≤ l.length) :
    Gives Tryz.prog 30 #[.slice A l.length c] w (.int .i64 (lenE (legsP l))) := by
  apply Gives.ret
  have H := Lib.hid h
  have hll := legsP_len l
  clear h
  go_enter Tryz.func30, Tryz.ntmps30
  go_wp2_with fail
  go_loopg [3, 4] l.length (fun gas s3 s4 wr => ∃ (i : Nat) (n : Int), i + 1 ≤ l.length ∧ l.length - (i + 1) ≤ gas ∧ s3 = .int .i64 n ∧ n = lenE ((legsP l).take i) ∧ s4 = .int .i64 ((i : Int) + 1) ∧ LaterOf w wr)
  case atStart => exact ⟨0, 0, by omega, by omega, rfl, rfl, by go_num, by (repeat (first | (with_reducible exact LaterOf.refl _) | (with_reducible refine LaterOf.alloc ?_ _) | (with_reducible refine LaterOf.drew ?_) | (with_reducible refine LaterOf.drewN ?_ _) | (with_reducible refine LaterOf.later ?_ _) | (with_reducible refine LaterOf.setCell ?_ (by first | exact Nat.le_refl _ | (simp; done) | omega | (simp; omega)) _)))⟩
  case round =>
    obtain ⟨i, n, hi, hgas, rfl, hn, rfl, ⟨z, rfl⟩⟩ := hrel
    by_cases hlt : i + 1 < l.length
    · have hlt0 : i < (legsP l).length := by omega
      have hr0 := H.out.of (w' := z.wd) (by (repeat (first | (with_reducible exact SinceOf.refl _) | (with_reducible assumption) | (with_reducible refine SinceOf.alloc ?_ _) | (with_reducible refine SinceOf.drew ?_) | (with_reducible refine SinceOf.drewN ?_ _) | (with_reducible refine SinceOf.later ?_ _) | (with_reducible refine SinceOf.further ?_ _) | (with_reducible refine SinceOf.setCell ?_ (by first | exact Nat.le_refl _ | (simp; done) | omega | (simp; omega)) _))))
      obtain ⟨g, off, rfl, hr⟩ := hr0.at_ (by omega)
      have hO := hr.there
      have a0 := hr.v0 i (by omega)
      have a1 := hr.v1 i (by omega)
      have a2 := hr.v0 (i + 1) hlt
      have a3 := hr.v1 (i + 1) hlt
      have eL : (legsP l)[i] = (l[i]'(by omega), l[i + 1]) := by rw [legsP_at, at0_eq (by omega), at0_eq hlt]
      have S1 := refSub_any l[i + 1].1 l[i + 1].2 (l[i]'(by omega)).1 (l[i]'(by omega)).2
      have M1 := refMaxNorm_any (wsub l[i + 1].1 (l[i]'(by omega)).1) (wsub l[i + 1].2 (l[i]'(by omega)).2)
      have hs := lenE_succ hlt0
      rw [← hn, eL] at hs
      change ∀ w, Gives _ _ _ w (.int .i64 (normE (l[i]'(by omega), l[i + 1]))) at M1
      obtain ⟨n2, hn2⟩ : ∃ n2, n2 = wadd n (normE (l[i]'(by omega), l[i + 1])) := ⟨_, rfl⟩
      have w1 : IntKind.i64.wrap (n + normE (l[i]'(by omega), l[i + 1])) = n2 := by rw [hn2]; exact IntWalk.i64_left _
      rw [← hn2] at hs
      have HS := Lib.hid (And.intro hs hn)
      clear hn2
      generalize normE (l[i]'(by omega), l[i + 1]) = t at *
      obtain ⟨⟨ax, ay⟩, hpa⟩ : ∃ t, t = l[i]'(by omega) := ⟨_, rfl⟩
      obtain ⟨⟨bx, by_⟩, hpb⟩ : ∃ t, t = l[i + 1] := ⟨_, rfl⟩
      rw [← hpa] at a0 a1 S1 M1
      rw [← hpb] at a2 a3 S1 M1
      simp only at a0 a1 a2 a3 S1 M1
      generalize wsub bx ax = ux at *
      generalize wsub by_ ay = uy at *
      have a2' := a2
      have a3' := a3
      rw [show off + (i + 1) * 2 = off + i * 2 + 2 by omega] at a2'
      rw [show off + (i + 1) * 2 = off + i * 2 + 2 by omega] at a3'
      have b1 : (0 : Int) ≤ (i : Int) := by omega
      have b2 : (i : Int) < l.length := by omega
      have b3 : (0 : Int) ≤ (i : Int) + 1 := by omega
      have b4 : (i : Int) + 1 < l.length := by omega
      have b5 : (i : Int) + 1 - 1 = i := by omega
      have b6 : IntKind.i64.wrap ((i : Int) + 1 - 1) = i := by rw [b5]; exact IntWalk.i64_in _ (by omega)
      have b7 : IntKind.i64.wrap (i : Int) = i := IntWalk.i64_in _ (by omega)
      have b8 : ((i : Int) + 1).toNat = i + 1 := by omega
      clear hr hr0 hs hn hpa hpb eL
      go_wp2_with fail
      refine region_later (by kernel_rfl) (by kernel_rfl) ?_
      repeat (go_big_quiet_step ((first | (with_reducible refine Gives.later (S1 _)) | (with_reducible refine Gives.later (M1 _)))))
      refine wpQuiet_nil ?_
      rintro _ ⟨z2, rfl⟩
      go_wp2_with fail
      go_roundg (l.length - (i + 1 + 1))
      case measure => omega
      case rel => exact ⟨i + 1, n2, by omega, Nat.le_refl _, by first | rfl | simp [w1], HS.out.1.symm, by go_num, by (repeat (first | (with_reducible exact LaterOf.refl _) | (with_reducible refine LaterOf.alloc ?_ _) | (with_reducible refine LaterOf.drew ?_) | (with_reducible refine LaterOf.drewN ?_ _) | (with_reducible refine LaterOf.later ?_ _) | (with_reducible refine LaterOf.setCell ?_ (by first | exact Nat.le_refl _ | (simp; done) | omega | (simp; omega)) _)))⟩
    · obtain hi2 : i = (legsP l).length := by omega
      rw [hi2, List.take_length] at hn
      subst hn
      go_wp2_with fail
      go_returns
      exact ⟨rfl, by (repeat (first | (with_reducible exact LaterOf.refl _) | (with_reducible refine LaterOf.alloc ?_ _) | (with_reducible refine LaterOf.drew ?_) | (with_reducible refine LaterOf.drewN ?_ _) | (with_reducible refine LaterOf.later ?_ _) | (with_reducible refine LaterOf.setCell ?_ (by first | exact Nat.le_refl _ | (simp; done) | omega | (simp; omega)) _)))⟩
end Go.Proofs.YtkpnffokjpgalaaGreat
/- Layer 46: JointRest, plain: the lengths as the program reckons them. -/
namespace Go.Proofs.YtkpnffokjpgalaaGreat
set_option linter.unusedVariables false
set_option linter.unusedSimpArgs false
open Go.RowKit Go.Sort

theorem normE_N {s : SegP} (h1 : near4 s.1) (h2 : near4 s.2) : normE s = nrmK s := by
  obtain ⟨e1, e2, s1, s2⟩ := sub_near h1 h2
  unfold normE nrmK
  rw [e1, e2, (iabs_small s1).1, (iabs_small s2).1]
  rfl
theorem fold_lenN : ∀ (l : List SegP) (m : Int), (∀ s ∈ l, near4 s.1 ∧ near4 s.2) → l.foldl (fun n s => wadd n (normE s)) (wrap64 m) = wrap64 (m + lsum l)
  | [], m, _ => by simp [lsum]
  | s :: l, m, h => by
    rw [List.foldl_cons, lsum_cons, normE_N (h s (by simp)).1 (h s (by simp)).2]
    unfold wadd
    rw [wrap_add]
    have := fold_lenN l (m + nrmK s) fun t ht => h t (by simp [ht])
    unfold wadd at this
    rw [this, Int.add_assoc]
theorem legsP_cons (a b : Pt) (l : List Pt) : legsP (a :: b :: l) = (a, b) :: legsP (b :: l) := by
  unfold legsP
  rw [show (a :: b :: l).length - 1 = (b :: l).length - 1 + 1 by simp, List.range_succ_eq_map, List.map_cons, List.map_map]
  rfl
theorem legs_along : ∀ Q : List Pt, lsum (legsP Q) = alongK Q
  | [] => rfl
  | [a] => rfl
  | a :: b :: l => by
    rw [legsP_cons, lsum_cons, legs_along (b :: l)]
    rfl
theorem legs_near {Q : List Pt} (h : ∀ p ∈ Q, near4 p) : ∀ s ∈ legsP Q, near4 s.1 ∧ near4 s.2 := fun s hs => by
  unfold legsP at hs
  rw [List.mem_map] at hs
  obtain ⟨i, hi, rfl⟩ := hs
  rw [List.mem_range] at hi
  rw [at0_eq (by omega), at0_eq (by omega)]
  exact ⟨h _ (List.getElem_mem _), h _ (List.getElem_mem _)⟩
/-- The length of a path. -/
theorem len_legs {Q : List Pt} (h : ∀ p ∈ Q, near4 p) : lenE (legsP Q) = wrap64 (alongK Q) := by
  have := fold_lenN (legsP Q) 0 (legs_near h)
  rw [Int.zero_add, show wrap64 0 = 0 by unfold wrap64; omega, legs_along] at this
  exact this
theorem cut_near {s : SegP} (hs : IsSegN s) : ∀ (F : List (Int × Int)) (P : List Pt), (∀ c ∈ F, 0 ≤ c.1 ∧ c.1 ≤ c.2 ∧ c.2 ≤ stepsK s.1 s.2) → (∀ p ∈ P, near4 p) → (∀ Q ∈ (cutP s F P).1, ∀ p ∈ Q, near4 p) ∧ ∀ p ∈ (cutP s F P).2, near4 p
  | [], P, hF, hP => ⟨fun Q hQ => by simp [cutP] at hQ, fun p hp => by
      rcases List.mem_append.1 (show p ∈ P ++ [s.2] from hp) with h | h
      · exact hP p h
      · rw [List.mem_singleton.1 h]; exact hs.2.2⟩
  | c :: l, P, hF, hP => by
    have hc := hF c List.mem_cons_self
    have ih := cut_near hs l [pointK s.1 s.2 c.2] (fun d hd => hF d (List.mem_cons_of_mem _ hd)) (fun p hp => by
      rw [List.mem_singleton.1 hp]
      exact point_near hs (by omega) (by omega))
    refine ⟨fun Q hQ p hp => ?_, ih.2⟩
    rcases List.mem_cons.1 (show Q ∈ (P ++ [pointK s.1 s.2 c.1]) :: (cutP s l [pointK s.1 s.2 c.2]).1 from hQ) with h | h
    · subst h
      rcases List.mem_append.1 hp with h | h
      · exact hP p h
      · rw [List.mem_singleton.1 h]; exact point_near hs (by omega) (by omega)
    · exact ih.1 Q h p hp
theorem walk_near : ∀ (T : List (SegP × List (Int × Int))) (P : List Pt), (∀ e ∈ T, IsSegN e.1 ∧ goodE e) → (∀ p ∈ P, near4 p) → ∀ Q ∈ walkP T P, ∀ p ∈ Q, near4 p
  | [], P, hT, hP, Q, hQ, p, hp => by
    rw [List.mem_singleton.1 (show Q ∈ [P] from hQ)] at hp
    exact hP p hp
  | e :: t, P, hT, hP, Q, hQ, p, hp => by
    have he := hT e List.mem_cons_self
    have hc := cut_near he.1 e.2 P he.2.1 hP
    rcases List.mem_append.1 (show Q ∈ (cutP e.1 e.2 P).1 ++ walkP t (cutP e.1 e.2 P).2 from hQ) with h | h
    · exact hc.1 Q h p hp
    · exact walk_near t _ (fun d hd => hT d (List.mem_cons_of_mem _ hd)) hc.2 Q h p hp
end Go.Proofs.YtkpnffokjpgalaaGreat
