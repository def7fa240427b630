/- Layer 46 (plain): the points and the lengths of what is cut once. -/
import Derived.Test.YtkpnffokjpgalaaGreatKJntR2
import Derived.Test.YtkpnffokjpgalaaGreatKJnt19
import Derived.Test.YtkpnffokjpgalaaGreatKJnt10
namespace Go.Proofs.YtkpnffokjpgalaaGreat
set_option linter.unusedVariables false
set_option linter.unusedSimpArgs false
open Go.RowKit

def abK (x : Int) : Int := if 0 ≤ x then x else -x
def nrmK (s : SegP) : Int := imax (abK (s.2.1 - s.1.1)) (abK (s.2.2 - s.1.2))
def lsum (l : List SegP) : Int := (l.map nrmK).sum
theorem lsum_append (l m : List SegP) : lsum (l ++ m) = lsum l + lsum m := by unfold lsum; rw [List.map_append, List.sum_append]
theorem lsum_cons (s : SegP) (l : List SegP) : lsum (s :: l) = nrmK s + lsum l := by unfold lsum; rw [List.map_cons, List.sum_cons]
theorem normE_K {s : SegP} (hs : IsSegN s) : normE s = nrmK s := by
  obtain ⟨e1, e2, s1, s2⟩ := sub_near hs.2.1 hs.2.2
  unfold normE nrmK
  rw [e1, e2, (iabs_small s1).1, (iabs_small s2).1]
  rfl
theorem wrap_add (a b : Int) : wrap64 (wrap64 a + b) = wrap64 (a + b) := by unfold wrap64; omega
theorem fold_len : ∀ (l : List SegP) (m : Int), (∀ s ∈ l, IsSegN s) → l.foldl (fun n s => wadd n (normE s)) (wrap64 m) = wrap64 (m + lsum l)
  | [], m, _ => by simp [lsum]
  | s :: l, m, h => by
    rw [List.foldl_cons, lsum_cons, normE_K (h s (by simp))]
    unfold wadd
    rw [wrap_add]
    have := fold_len l (m + nrmK s) fun t ht => h t (by simp [ht])
    unfold wadd at this
    rw [this, Int.add_assoc]
theorem lenE_wrap {l : List SegP} (h : ∀ s ∈ l, IsSegN s) : lenE l = wrap64 (lsum l) := by
  have := fold_len l 0 h
  rw [Int.zero_add, show wrap64 0 = 0 by unfold wrap64; omega] at this
  exact this
theorem abK_mul {x g : Int} (hg : 0 ≤ g) : abK (x * g) = abK x * g := by
  unfold abK
  by_cases hx : 0 ≤ x
  · rw [if_pos hx, if_pos (Int.mul_nonneg hx hg)]
  · rw [if_neg hx]
    split
    · rename_i h
      rcases Int.lt_or_eq_of_le hg with h1 | h1
      · have := Int.mul_neg_of_neg_of_pos (show x < 0 by omega) h1
        omega
      · rw [← h1]; simp
    · rw [Int.neg_mul]
theorem imax_mul {x y g : Int} (hg : 0 ≤ g) : imax (x * g) (y * g) = imax x y * g := by
  unfold imax
  by_cases h : x < y
  · rw [if_pos h]
    split
    · rfl
    · rename_i h2
      have := Int.mul_le_mul_of_nonneg_right (show x ≤ y by omega) hg
      omega
  · rw [if_neg h]
    split
    · rename_i h2
      have := Int.mul_le_mul_of_nonneg_right (show y ≤ x by omega) hg
      omega
    · rfl
theorem nrm_un {a v : Pt} (h : key v ≠ 0) (k : Int) : nrmK (unK a v k) = imax (abK v.1) (abK v.2) := by
  unfold unK
  have ab : ∀ x : Int, abK (-x) = abK x := fun x => by unfold abK; split <;> split <;> omega
  rcases Int.lt_or_lt_of_ne h with hv | hv
  · rw [(mn_pt' hv _ _).1, (mn_pt' hv _ _).2, show imax k (k + 1) = k + 1 by unfold imax; split <;> omega, show imin k (k + 1) = k by unfold imin; split <;> omega]
    unfold nrmK ptK
    simp only
    rw [show a.1 + v.1 * k - (a.1 + v.1 * (k + 1)) = -v.1 by grind, show a.2 + v.2 * k - (a.2 + v.2 * (k + 1)) = -v.2 by grind, ab, ab]
  · rw [(mn_pt hv _ _).1, (mn_pt hv _ _).2, show imax k (k + 1) = k + 1 by unfold imax; split <;> omega, show imin k (k + 1) = k by unfold imin; split <;> omega]
    unfold nrmK ptK
    simp only
    rw [show a.1 + v.1 * (k + 1) - (a.1 + v.1 * k) = v.1 by grind, show a.2 + v.2 * (k + 1) - (a.2 + v.2 * k) = v.2 by grind]
theorem nrm_seg {s : SegP} (hs : IsSegN s) : lsum (uns s) = nrmK s := by
  have hk := dirK_key hs.1 hs.2.1 hs.2.2
  have hg := stepsK_nonneg s.1 s.2
  obtain ⟨e1, e2⟩ := dirK_mul s.1 s.2
  have h1 : nrmK s = imax (abK (dirK s.1 s.2).1) (abK (dirK s.1 s.2).2) * stepsK s.1 s.2 := by
    unfold nrmK
    rw [← e1, ← e2, abK_mul hg, abK_mul hg, imax_mul hg]
  rw [h1]
  unfold lsum uns
  rw [List.map_map]
  generalize hd : dirK s.1 s.2 = v at *
  have h2 : ∀ n : Nat, ((List.range n).map (nrmK ∘ fun n : Nat => unK s.1 v n)).sum = imax (abK v.1) (abK v.2) * n := by
    intro n
    induction n with
    | zero => simp
    | succ n ih =>
      rw [List.range_succ, List.map_append, List.sum_append, ih]
      simp only [List.map_cons, List.map_nil, List.sum_cons, List.sum_nil, Function.comp_apply]
      rw [nrm_un hk]
      grind
  rw [h2, Int.toNat_of_nonneg hg]
theorem lsum_un : ∀ {l : List SegP}, (∀ s ∈ l, IsSegN s) → lsum (unL l) = lsum l
  | [], _ => rfl
  | s :: l, h => by
    have ih := lsum_un (l := l) fun t ht => h t (by simp [ht])
    have : unL (s :: l) = uns s ++ unL l := by unfold unL; rw [List.flatMap_cons]
    rw [this, lsum_append, lsum_cons, nrm_seg (h s (by simp)), ih]
theorem perm_sum {l m : List Int} (h : l.Perm m) : l.sum = m.sum := by
  induction h with
  | nil => rfl
  | cons x _ ih => rw [List.sum_cons, List.sum_cons, ih]
  | swap x y l => simp only [List.sum_cons]; omega
  | trans _ _ h1 h2 => rw [h1, h2]
theorem lsum_same {l m : List SegP} (hl : l.Nodup) (hm : m.Nodup) (h : ∀ u, u ∈ l ↔ u ∈ m) : lsum l = lsum m := by
  unfold lsum
  exact perm_sum (((List.perm_ext_iff_of_nodup hl hm).2 h).map nrmK)
/-- The length of what is cut once depends on the unit steps alone. -/
theorem once_len {rs qs : List (List Pt)} (h : ∀ r ∈ rs, okB r = true) (k : ∀ r ∈ qs, okB r = true) (hm : ∀ u, u ∈ unL (cutL rs) ↔ u ∈ unL (cutL qs)) : lenE (onceF [] rs) = lenE (onceF [] qs) := by
  have n0 : ∀ o ∈ ([] : List SegP), IsSegN o := fun o ho => by cases ho
  rw [lenE_wrap (onceF_N rs [] h), lenE_wrap (onceF_N qs [] k), ← lsum_un (onceF_N rs [] h), ← lsum_un (onceF_N qs [] k)]
  congr 1
  exact lsum_same (once_nodup rs [] h n0) (once_nodup qs [] k n0) fun u => by rw [mem_once rs [] h n0, mem_once qs [] k n0, hm u]
theorem cut_mem {rs qs : List (List Pt)} (h : ∀ r, r ∈ rs ↔ r ∈ qs) (u : SegP) : u ∈ unL (cutL rs) ↔ u ∈ unL (cutL qs) := by
  unfold unL cutL
  simp only [List.mem_flatMap, h]
theorem once_back {rs : List (List Pt)} (h : ∀ r ∈ rs, okB r = true) : lenE (onceF [] rs.reverse) = lenE (onceF [] rs) :=
  once_len (fun r hr => h r (List.mem_reverse.1 hr)) h (cut_mem fun r => List.mem_reverse)
theorem once_twice {rs : List (List Pt)} (h : ∀ r ∈ rs, okB r = true) {r : List Pt} (hr : r ∈ rs) : lenE (onceF [] (rs ++ [r])) = lenE (onceF [] rs) := by
  have e : ∀ q, q ∈ rs ++ [r] ↔ q ∈ rs := fun q => by
    rw [List.mem_append, List.mem_singleton]
    constructor
    · rintro (h | rfl); exact h; exact hr
    · exact .inl
  exact once_len (fun q hq => h q ((e q).1 hq)) h (cut_mem e)
theorem un_free (E : List SegP) (h : ∀ s ∈ E, IsSegN s) : unL (leftAll [] E) = unL E := by
  rw [un_leftAll (fun o ho => by cases ho) E h]
  exact List.filter_eq_self.2 fun u _ => by simp [unL]
theorem once_one {r : List Pt} (h : okB r = true) : lenE (onceF [] [r]) = lenE (edgesV r) := by
  have hN := edgesO_N h
  have h1 : ∀ q ∈ [r], okB q = true := fun q hq => by rw [List.mem_singleton.1 hq]; exact h
  rw [(okB_edgeN h).1, lenE_wrap (onceF_N [r] [] h1), lenE_wrap hN, ← lsum_un (onceF_N [r] [] h1), ← lsum_un hN]
  rw [onceF_cons, unL_append, un_free _ hN]
  simp [onceF, unL]
/-- What two segments share. -/
theorem share_un {s o : SegP} (hs : IsSegN s) (ho : IsSegN o) (h : (meetK s.1 s.2 o.1 o.2).1 = 3) : IsSegN (meetK s.1 s.2 o.1 o.2).2 ∧ ∀ u, u ∈ uns (meetK s.1 s.2 o.1 o.2).2 ↔ u ∈ uns s ∧ u ∈ uns o := by
  have hk := dirK_key hs.1 hs.2.1 hs.2.2
  have hp := prim_dir hs.1
  have hg := stepsK_pos hs.1
  rcases line_or hs.1 ho.1 with ⟨i, j, hij, hi, hj⟩ | hn
  · have e := line_meet (a := s.1) hk (x := 0) (y := stepsK s.1 s.2) (i := i) (j := j) (by omega) hij
    simp only [← pointK_pt, pointK_0, pointK_steps, ← hi, ← hj] at e
    have e2 := fun u => mem_uns_pt (a := s.1) hk hp hij u
    simp only [← pointK_pt, ← hi, ← hj] at e2
    have hlt : loI 0 (stepsK s.1 s.2) i j < hiI 0 (stepsK s.1 s.2) i j := by
      rw [e.1] at h
      split at h
      · simp at h
      · split at h
        · assumption
        · simp at h
    have hin : ∀ k, (loI 0 (stepsK s.1 s.2) i j ≤ k ∧ k < hiI 0 (stepsK s.1 s.2) i j) ↔ (0 ≤ k ∧ k < stepsK s.1 s.2) ∧ imin i j ≤ k ∧ k < imax i j := by
      intro k
      unfold loI hiI imax imin
      split <;> split <;> (try split) <;> (try split) <;> (try split) <;> (try split) <;> omega
    have l0 : 0 ≤ loI 0 (stepsK s.1 s.2) i j ∧ hiI 0 (stepsK s.1 s.2) i j ≤ stepsK s.1 s.2 := by
      unfold loI hiI imax imin
      constructor <;> split <;> split <;> (try split) <;> omega
    have e3 := e.2 hlt
    generalize loI 0 (stepsK s.1 s.2) i j = L at *
    generalize hiI 0 (stepsK s.1 s.2) i j = H at *
    have n1 := point_near hs (k := L) (by omega) (by omega)
    have n2 := point_near hs (k := H) (by omega) (by omega)
    have ne : pointK s.1 s.2 L ≠ pointK s.1 s.2 H := fun q => by
      rw [pointK_pt, pointK_pt] at q
      have := pt_inj hk q
      omega
    have mem : ∀ u, (∃ k, L ≤ k ∧ k < H ∧ u = unK s.1 (dirK s.1 s.2) k) ↔ u ∈ uns s ∧ u ∈ uns o := by
      intro u
      rw [e2 u, mem_uns]
      constructor
      · rintro ⟨k, h1, h2, rfl⟩
        obtain ⟨⟨a1, a2⟩, a3, a4⟩ := (hin k).1 ⟨h1, h2⟩
        exact ⟨⟨k, a1, a2, rfl⟩, k, a3, a4, rfl⟩
      · rintro ⟨⟨k, a1, a2, rfl⟩, l, a3, a4, q⟩
        obtain rfl := unK_inj hk q
        obtain ⟨h1, h2⟩ := (hin k).2 ⟨⟨a1, a2⟩, a3, a4⟩
        exact ⟨k, h1, h2, rfl⟩
    rw [e3]
    split
    · refine ⟨⟨ne, n1, n2⟩, fun u => ?_⟩
      rw [← mem u, pointK_pt, pointK_pt, mem_uns_pt hk hp (by omega), show imin L H = L by unfold imin; split <;> omega, show imax L H = H by unfold imax; split <;> omega]
    · refine ⟨⟨ne.symm, n2, n1⟩, fun u => ?_⟩
      rw [← mem u, pointK_pt, pointK_pt, mem_uns_pt hk hp (by omega), show imin H L = L by unfold imin; split <;> omega, show imax H L = H by unfold imax; split <;> omega]
  · have := hn 0 (stepsK s.1 s.2) (by omega)
    rw [pointK_0, pointK_steps] at this
    exact absurd h this
/-- The unit steps that two segments share. -/
def shU (x y : SegP) : List SegP := match shE x y with
  | none => []
  | some s => uns s
theorem shU_is {x y : SegP} (hx : IsSegN x) (hy : IsSegN y) : (shU x y).Nodup ∧ ∀ u, u ∈ shU x y ↔ u ∈ uns x ∧ u ∈ uns y := by
  unfold shU shE
  rw [meetP_K hx hy]
  by_cases h : (meetK x.1 x.2 y.1 y.2).1 = 3
  · rw [if_pos h]
    obtain ⟨h1, h2⟩ := share_un hx hy h
    exact ⟨uns_nodup h1, h2⟩
  · rw [if_neg h]
    refine ⟨List.nodup_nil, fun u => ?_⟩
    simp only [List.not_mem_nil, false_iff]
    exact fun q => h ((meet_un hx hy).2 ⟨u, q.1, q.2⟩)
theorem un_shS (x : SegP) : ∀ F : List SegP, unL (shS x F) = F.flatMap (shU x)
  | [] => rfl
  | y :: F => by
    have ih := un_shS x F
    unfold shS at *
    rw [List.flatMap_cons, ← ih, List.filterMap_cons]
    unfold shU
    cases shE x y
    · simp
    · simp only
      unfold unL
      rw [List.flatMap_cons]
theorem un_shL (F : List SegP) : ∀ E : List SegP, unL (shL E F) = E.flatMap fun x => F.flatMap (shU x)
  | [] => rfl
  | x :: E => by
    have ih := un_shL F E
    unfold shL at *
    rw [List.flatMap_cons, List.flatMap_cons, unL_append, ih, un_shS]
theorem shL_N {E F : List SegP} (hE : ∀ s ∈ E, IsSegN s) (hF : ∀ s ∈ F, IsSegN s) : ∀ t ∈ shL E F, IsSegN t := by
  intro t ht
  unfold shL shS at ht
  obtain ⟨x, hx, ht⟩ := List.mem_flatMap.1 ht
  obtain ⟨y, hy, ht⟩ := List.mem_filterMap.1 ht
  unfold shE at ht
  rw [meetP_K (hE x hx) (hF y hy)] at ht
  split at ht
  · rename_i h
    rw [← Option.some.inj ht]
    exact (share_un (hE x hx) (hF y hy) h).1
  · cases ht
theorem un_share {E F : List SegP} (hE : ∀ s ∈ E, IsSegN s) (hF : ∀ s ∈ F, IsSegN s) (nE : (unL E).Nodup) (nF : (unL F).Nodup) : (unL (shL E F)).Nodup ∧ ∀ u, u ∈ unL (shL E F) ↔ u ∈ unL E ∧ u ∈ unL F := by
  rw [un_shL]
  unfold unL at nE nF
  rw [List.Nodup, List.pairwise_flatMap] at nE nF
  constructor
  · rw [List.Nodup, List.pairwise_flatMap]
    constructor
    · intro x hx
      rw [List.pairwise_flatMap]
      refine ⟨fun y hy => (shU_is (hE x hx) (hF y hy)).1, ?_⟩
      refine nF.2.imp_of_mem ?_
      intro y z hy hz h u hu v hv
      exact h u (((shU_is (hE x hx) (hF y hy)).2 u).1 hu).2 v (((shU_is (hE x hx) (hF z hz)).2 v).1 hv).2
    · refine nE.2.imp_of_mem ?_
      intro x y hx hy h u hu v hv
      obtain ⟨z, hz, hu⟩ := List.mem_flatMap.1 hu
      obtain ⟨t, ht, hv⟩ := List.mem_flatMap.1 hv
      exact h u (((shU_is (hE x hx) (hF z hz)).2 u).1 hu).1 v (((shU_is (hE y hy) (hF t ht)).2 v).1 hv).1
  · intro u
    simp only [List.mem_flatMap, mem_unL]
    constructor
    · rintro ⟨x, hx, y, hy, hu⟩
      obtain ⟨h1, h2⟩ := ((shU_is (hE x hx) (hF y hy)).2 u).1 hu
      exact ⟨⟨x, hx, h1⟩, y, hy, h2⟩
    · rintro ⟨⟨x, hx, h1⟩, y, hy, h2⟩
      exact ⟨x, hx, y, hy, ((shU_is (hE x hx) (hF y hy)).2 u).2 ⟨h1, h2⟩⟩
theorem filter_sum (p : SegP → Bool) : ∀ l : List SegP, lsum (l.filter p) + lsum (l.filter fun u => !p u) = lsum l
  | [] => rfl
  | s :: l => by
    have ih := filter_sum p l
    rw [lsum_cons, ← ih]
    cases h : p s
    · rw [List.filter_cons_of_neg (by simp [h]), List.filter_cons_of_pos (by simp [h]), lsum_cons]; omega
    · rw [List.filter_cons_of_pos (by simp [h]), List.filter_cons_of_neg (by simp [h]), lsum_cons]; omega
theorem once_two {a b : List Pt} (ha : okB a = true) (hb : okB b = true) : lenE (onceF [] [a, b]) = wsub (wadd (lenE (edgesV a)) (lenE (edgesV b))) (lenE (shareR a b)) := by
  have hA := edgesO_N ha
  have hB := edgesO_N hb
  have nA := ring_nodup ha
  have nB := ring_nodup hb
  have h2 : ∀ q ∈ [a, b], okB q = true := fun q hq => by
    simp only [List.mem_cons, List.not_mem_nil, or_false] at hq
    rcases hq with rfl | rfl <;> assumption
  have hS : shareR a b = shL (edgesO a) (edgesO b) := by unfold shareR; rw [ha, hb, (okB_edgeN ha).1, (okB_edgeN hb).1]; rfl
  have hSN := shL_N hA hB
  obtain ⟨s1, s2⟩ := un_share hA hB nA nB
  rw [hS, (okB_edgeN ha).1, (okB_edgeN hb).1, lenE_wrap (onceF_N _ [] h2), lenE_wrap hA, lenE_wrap hB, lenE_wrap hSN, ← lsum_un (onceF_N _ [] h2), ← lsum_un hSN, ← lsum_un hB, ← lsum_un hA]
  have e1 : unL (onceF [] [a, b]) = unL (edgesO a) ++ (unL (edgesO b)).filter fun u => decide (u ∉ unL (edgesO a)) := by
    rw [onceF_cons, onceF_cons, unL_append, unL_append, un_free _ hA, List.nil_append, un_leftAll hA _ hB]
    simp [onceF, unL]
  have e2 : lsum (unL (shL (edgesO a) (edgesO b))) = lsum ((unL (edgesO b)).filter fun u => !decide (u ∉ unL (edgesO a))) := by
    refine lsum_same s1 (nB.filter _) fun u => ?_
    rw [s2 u, List.mem_filter]
    simp only [Bool.not_eq_true', decide_eq_false_iff_not, Classical.not_not]
    exact ⟨fun h => ⟨h.2, h.1⟩, fun h => ⟨h.2, h.1⟩⟩
  have e3 := filter_sum (fun u => decide (u ∉ unL (edgesO a))) (unL (edgesO b))
  rw [e1, e2, lsum_append]
  generalize lsum ((unL (edgesO b)).filter fun u => !decide (u ∉ unL (edgesO a))) = q1 at *
  generalize lsum ((unL (edgesO b)).filter fun u => decide (u ∉ unL (edgesO a))) = q2 at *
  generalize lsum (unL (edgesO a)) = q3 at *
  generalize lsum (unL (edgesO b)) = q4 at *
  unfold wsub wadd wrap64
  omega
/-- A point lies on a segment. -/
theorem onB_un {s : SegP} (hs : IsSegN s) (p : Pt) : onB s p = true ↔ ∃ u ∈ uns s, p = u.1 ∨ p = u.2 := by
  rw [← on_uns hs]
  have hok := segN_ok hs
  constructor
  · intro h
    have h1 : inSeg s p = true := by
      unfold onB at h
      simp only [Bool.and_eq_true] at h
      exact h.1.2
    unfold inSeg at h1
    simp only [Bool.and_eq_true, decide_eq_true_eq] at h1
    obtain ⟨⟨⟨a1, a2⟩, a3⟩, a4⟩ := h1
    exact (onB_iff hok (inX_near hs.2.1 hs.2.2 ⟨a1, a2, a3, a4⟩)).1 h
  · intro h
    exact (onB_iff hok (inX_near hs.2.1 hs.2.2 h.1)).2 h
theorem onB_unL {l : List SegP} (h : ∀ s ∈ l, IsSegN s) (p : Pt) : l.any (fun s => onB s p) = true ↔ ∃ u ∈ unL l, p = u.1 ∨ p = u.2 := by
  simp only [List.any_eq_true]
  constructor
  · rintro ⟨s, hs, h1⟩
    obtain ⟨u, hu, h2⟩ := (onB_un (h s hs) p).1 h1
    exact ⟨u, mem_unL.2 ⟨s, hs, hu⟩, h2⟩
  · rintro ⟨u, hu, h2⟩
    obtain ⟨s, hs, hu⟩ := mem_unL.1 hu
    exact ⟨s, hs, (onB_un (h s hs) p).2 ⟨u, hu, h2⟩⟩
/-- What is cut once has the points of all edges. -/
theorem once_points {rs : List (List Pt)} (h : ∀ r ∈ rs, okB r = true) (p : Pt) : (onceF [] rs).any (fun s => onB s p) = (cutL rs).any fun s => onB s p := by
  have n0 : ∀ o ∈ ([] : List SegP), IsSegN o := fun o ho => by cases ho
  apply Bool.eq_iff_iff.2
  rw [onB_unL (onceF_N rs [] h), onB_unL (cutL_edge h)]
  simp only [mem_once rs [] h n0]
  simp [unL]
/-- No two of its segments overlap. -/
theorem once_apart {rs : List (List Pt)} (h : ∀ r ∈ rs, okB r = true) {i k : Nat} (hi : i < (onceF [] rs).length) (hk : k < i) : meetI (onceF [] rs)[i] (onceF [] rs)[k] ≠ 3 := by
  have n0 : ∀ o ∈ ([] : List SegP), IsSegN o := fun o ho => by cases ho
  have hN := onceF_N rs [] h
  have hd := once_nodup rs [] h n0
  unfold unL at hd
  rw [List.Nodup, List.pairwise_flatMap] at hd
  have := List.pairwise_iff_getElem.1 hd.2 k i (by omega) hi hk
  have s1 := hN _ (List.getElem_mem hi)
  have s2 := hN _ (List.getElem_mem (show k < (onceF [] rs).length by omega))
  rw [meetI_K (segN_ok s1) (segN_ok s2)]
  intro e
  obtain ⟨u, h1, h2⟩ := (meet_un s1 s2).1 e
  exact this u h2 u h1 rfl
end Go.Proofs.YtkpnffokjpgalaaGreat
