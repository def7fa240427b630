/- Layer 46 (plain): what is cut once, in unit steps; lengths are sums over them. -/
import Derived.Test.YtkpnffokjpgalaaGreatKJntR1
import Derived.Test.YtkpnffokjpgalaaGreatKJntQ1
namespace Go.Proofs.YtkpnffokjpgalaaGreat
set_option linter.unusedVariables false
set_option linter.unusedSimpArgs false

def unL (l : List SegP) : List SegP := l.flatMap uns
theorem unL_append (l m : List SegP) : unL (l ++ m) = unL l ++ unL m := by unfold unL; rw [List.flatMap_append]
theorem mem_unL {l : List SegP} {u : SegP} : u ∈ unL l ↔ ∃ s ∈ l, u ∈ uns s := by unfold unL; rw [List.mem_flatMap]
/-- The numbers of the steps of a run. -/
def spanN (c : Int × Int) : List Nat := (List.range (c.2 - c.1).toNat).map fun n => c.1.toNat + n
theorem spanN_more {x n : Nat} (h : x ≤ n) : spanN ((x : Int), (n : Int) + 1) = spanN ((x : Int), (n : Int)) ++ [n] := by
  unfold spanN
  simp only
  rw [show ((n : Int) + 1 - (x : Int)).toNat = ((n : Int) - (x : Int)).toNat + 1 by omega, List.range_succ, List.map_append]
  congr 1
  simp
  omega
theorem stR_in {U : Nat → Bool} : ∀ (n : Nat), ∀ c ∈ (stR U n).2, 0 ≤ c.1 ∧ c.1 < c.2 ∧ c.2 ≤ n
  | 0 => fun c hc => by simp [stR] at hc
  | n + 1 => by
    have ih := @stR_in U n
    intro c hc
    unfold stR at hc
    split at hc
    · have := ih c hc; omega
    · split at hc
      · rename_i h1 h2
        obtain ⟨l, x, e⟩ := stR_open h2
        simp only at hc
        rw [e, setB_push] at hc
        rcases List.mem_append.1 hc with hc | hc
        · have := ih c (by rw [e]; exact List.mem_append.2 (.inl hc)); omega
        · simp only [List.mem_singleton] at hc
          subst hc
          have := ih (x, (n : Int)) (by rw [e]; simp)
          simp only at this ⊢
          omega
      · simp only at hc
        rcases List.mem_append.1 hc with hc | hc
        · have := ih c hc; omega
        · simp only [List.mem_singleton] at hc
          subst hc
          simp only
          omega
theorem runs_filter (U : Nat → Bool) : ∀ n, (stR U n).2.flatMap spanN = (List.range n).filter U
  | 0 => by simp [stR]
  | n + 1 => by
    have ih := runs_filter U n
    rw [List.range_succ, List.filter_append, ← ih]
    cases hU : U n
    · rw [stR_cov hU]
      simp [hU]
    · cases ho : (stR U n).1
      · rw [stR_new hU ho]
        simp only [List.flatMap_append]
        congr 1
        have := spanN_more (Nat.le_refl n)
        simp [hU]
        rw [this]
        unfold spanN
        simp
      · obtain ⟨l, x, e⟩ := stR_open ho
        have hx := stR_in (U := U) n (x, (n : Int)) (by rw [e]; simp)
        simp only at hx
        obtain ⟨m, rfl⟩ : ∃ m : Nat, x = m := ⟨x.toNat, by omega⟩
        rw [stR_go hU ho]
        simp only
        rw [e, setB_push]
        simp only [List.flatMap_append, List.flatMap_cons, List.flatMap_nil, List.append_nil]
        rw [spanN_more (by omega)]
        simp [hU]
theorem uns_run {s : SegP} (hs : IsSegN s) {c : Int × Int} (h0 : 0 ≤ c.1) (h1 : c.1 < c.2) : uns (segI s c) = (spanN c).map fun n : Nat => unK s.1 (dirK s.1 s.2) n := by
  unfold segI spanN
  rw [pointK_pt, pointK_pt, uns_up (prim_dir hs.1) h1, List.map_map]
  apply List.map_congr_left
  intro n _
  simp only [Function.comp_apply]
  congr 1
  omega
theorem free_un {s : SegP} {D : List SegP} (hs : IsSegN s) (hD : ∀ o ∈ D, IsSegN o) (n : Nat) : freeB s D n = decide (unK s.1 (dirK s.1 s.2) n ∉ unL D) := by
  unfold freeB
  apply Bool.eq_iff_iff.2
  simp only [Bool.not_eq_true', decide_eq_true_eq, List.any_eq_false, mem_unL]
  constructor
  · rintro h ⟨o, ho, hu⟩
    exact h o ho ((over_un hs (hD o ho) n).2 hu)
  · rintro h o ho hu
    exact h ⟨o, ho, (over_un hs (hD o ho) n).1 hu⟩
theorem un_left {s : SegP} {D : List SegP} (hs : IsSegN s) (hD : ∀ o ∈ D, IsSegN o) : unL (leftK s D) = (uns s).filter fun u => decide (u ∉ unL D) := by
  have h1 : unL (leftK s D) = ((runsI s D).flatMap spanN).map fun n : Nat => unK s.1 (dirK s.1 s.2) n := by
    unfold unL leftK
    rw [List.flatMap_map, List.map_flatMap]
    have : ∀ l : List (Int × Int), (∀ c ∈ l, 0 ≤ c.1 ∧ c.1 < c.2) → (l.flatMap fun c => uns (segI s c)) = l.flatMap fun c => (spanN c).map fun n : Nat => unK s.1 (dirK s.1 s.2) n := by
      intro l
      induction l with
      | nil => intro _; rfl
      | cons c l ih =>
        intro h
        rw [List.flatMap_cons, List.flatMap_cons, ih fun d hd => h d (by simp [hd]), uns_run hs (h c (by simp)).1 (h c (by simp)).2]
    exact this _ fun c hc => by
      have := stR_in _ c hc
      omega
  rw [h1]
  unfold runsI
  rw [runs_filter]
  unfold uns
  rw [List.filter_map]
  congr 1
  apply List.filter_congr
  intro n _
  rw [free_un hs hD]
  rfl
theorem leftK_N {s : SegP} {D : List SegP} (hs : IsSegN s) : ∀ t ∈ leftK s D, IsSegN t := by
  intro t ht
  unfold leftK at ht
  obtain ⟨c, hc, rfl⟩ := List.mem_map.1 ht
  have hg := stepsK_nonneg s.1 s.2
  have := stR_in _ c hc
  have hk := dirK_key hs.1 hs.2.1 hs.2.2
  refine ⟨?_, point_near hs (by omega) (by omega), point_near hs (by omega) (by omega)⟩
  unfold segI
  simp only
  rw [pointK_pt, pointK_pt]
  intro e
  have := pt_inj hk e
  omega
theorem un_leftAll {D : List SegP} (hD : ∀ o ∈ D, IsSegN o) : ∀ E : List SegP, (∀ s ∈ E, IsSegN s) → unL (leftAll D E) = (unL E).filter fun u => decide (u ∉ unL D)
  | [], _ => rfl
  | s :: E, h => by
    have ih := un_leftAll hD E fun t ht => h t (by simp [ht])
    unfold leftAll at *
    rw [List.flatMap_cons, unL_append, ih, un_left (h s (by simp)) hD]
    conv => rhs; unfold unL; rw [List.flatMap_cons, List.filter_append]
    rfl
theorem leftAll_N {D E : List SegP} (h : ∀ s ∈ E, IsSegN s) : ∀ t ∈ leftAll D E, IsSegN t := by
  intro t ht
  unfold leftAll at ht
  obtain ⟨s, hs, ht⟩ := List.mem_flatMap.1 ht
  exact leftK_N (h s hs) t ht
theorem edgesO_N {r : List Pt} (h : okB r = true) : ∀ s ∈ edgesO r, IsSegN s := fun s hs => (okB_iff.1 h).edge hs
theorem onceF_cons (d : List SegP) (r : List Pt) (l : List (List Pt)) : onceF d (r :: l) = leftAll d (edgesO r) ++ onceF (d ++ edgesO r) l := rfl
theorem onceF_N : ∀ (rs : List (List Pt)) (d : List SegP), (∀ r ∈ rs, okB r = true) → ∀ t ∈ onceF d rs, IsSegN t
  | [], d, _ => fun t ht => by simp [onceF] at ht
  | r :: l, d, h => fun t ht => by
    rw [onceF_cons] at ht
    rcases List.mem_append.1 ht with ht | ht
    · exact leftAll_N (edgesO_N (h r (by simp))) t ht
    · exact onceF_N l _ (fun q hq => h q (by simp [hq])) t ht
/-- The edges of a valid ring have no unit step in common. -/
theorem ring_nodup {r : List Pt} (h : okB r = true) : (unL (edgesO r)).Nodup := by
  have hk := okB_iff.1 h
  unfold unL
  rw [List.Nodup, List.pairwise_flatMap]
  refine ⟨fun s hs => uns_nodup (hk.edge hs), ?_⟩
  unfold edgesO
  rw [List.pairwise_map]
  refine List.pairwise_iff_getElem.2 ?_
  intro i k hi hkn hik u hu v hv e
  simp only [List.length_range] at hi hkn
  simp only [List.getElem_range] at hu hv
  subst e
  have p := hk.pair hkn hik
  have hs1 : IsSegN (at0 r i, rv r (i + 1)) := hk.edge (List.mem_map.2 ⟨i, List.mem_range.2 hi, rfl⟩)
  have hs2 : IsSegN (at0 r k, rv r (k + 1)) := hk.edge (List.mem_map.2 ⟨k, List.mem_range.2 hkn, rfl⟩)
  have := (meet_un hs1 hs2).2 ⟨u, hu, hv⟩
  unfold pairR at p
  simp only at this
  split at p <;> omega
theorem mem_once : ∀ (rs : List (List Pt)) (d : List SegP), (∀ r ∈ rs, okB r = true) → (∀ o ∈ d, IsSegN o) → ∀ u, u ∈ unL (onceF d rs) ↔ u ∈ unL (cutL rs) ∧ u ∉ unL d
  | [], d, _, _ => fun u => by simp [onceF, cutL, unL]
  | r :: l, d, h, hd => fun u => by
    have hr := edgesO_N (h r (by simp))
    have ih := mem_once l (d ++ edgesO r) (fun q hq => h q (by simp [hq])) (fun o ho => (List.mem_append.1 ho).elim (hd o) (hr o)) u
    have ec : cutL (r :: l) = edgesO r ++ cutL l := by unfold cutL; rw [List.flatMap_cons]
    rw [onceF_cons, unL_append, List.mem_append, ih, un_leftAll hd _ hr, ec, unL_append, unL_append]
    simp only [List.mem_filter, List.mem_append, decide_eq_true_eq]
    by_cases h1 : u ∈ unL d <;> by_cases h2 : u ∈ unL (edgesO r) <;> simp [h1, h2]
theorem once_nodup : ∀ (rs : List (List Pt)) (d : List SegP), (∀ r ∈ rs, okB r = true) → (∀ o ∈ d, IsSegN o) → (unL (onceF d rs)).Nodup
  | [], d, _, _ => by simp [onceF, unL]
  | r :: l, d, h, hd => by
    have hr := edgesO_N (h r (by simp))
    have hd2 : ∀ o ∈ d ++ edgesO r, IsSegN o := fun o ho => (List.mem_append.1 ho).elim (hd o) (hr o)
    have hl : ∀ q ∈ l, okB q = true := fun q hq => h q (by simp [hq])
    have ih := once_nodup l (d ++ edgesO r) hl hd2
    rw [onceF_cons, unL_append, un_leftAll hd _ hr, List.nodup_append]
    refine ⟨(ring_nodup (h r (by simp))).filter _, ih, ?_⟩
    intro u hu v hv e
    subst e
    have h1 := (mem_once l _ hl hd2 u).1 hv
    rw [unL_append] at h1
    exact h1.2 (List.mem_append.2 (.inr (List.mem_filter.1 hu).1))
end Go.Proofs.YtkpnffokjpgalaaGreat
