/- Layer 54 (plain): the example of the document, as values. -/
import Derived.Test.YtpaojgfmffkodaaGreatLRepP12
import Derived.Test.YtpaojgfmffkodaaGreatLSch28
namespace Go.Proofs.YtpaojgfmffkodaaGreat
set_option linter.unusedVariables false
set_option linter.unusedSimpArgs false
open Go.RowKit Go.Sort
theorem applyV_er (s : ShopR) (L : List JobR) (plan : List SlotR) (now : Int) (evs : List EvR) : applyV s L plan now evs = applyV (erS s) (erL L) plan now evs := by
  have h : startV (erS s) (erL L) plan now = startV s L plan now := by
    unfold startV
    rw [erS_erS, erL_erL]
    simp [erL]
  unfold applyV
  rw [validT_er, h]
theorem endsV_cons_some2 {s : ShopR} {L : List JobR} {j m st sp : Int} {r : List SlotR} {a : Int} (h : finishAt s m st (jobAt L j).dur = (a, 0)) : endsV s L (⟨j, m, st, sp⟩ :: r) = (endsV s L r).map fun t => ⟨j, m, st, a⟩ :: t := by
  show (if (finishAt s m st (jobAt L j).dur).2 = 0 then (endsV s L r).map fun t => ⟨j, m, st, (finishAt s m st (jobAt L j).dur).1⟩ :: t else none) = _
  rw [h, if_pos rfl]
def awK : CalR := ⟨10, none, 0, [(0, 10)], none, 0, []⟩
def awK2 : CalR := ⟨10, none, 0, [(0, 10)], none, 0, [(8, 9)]⟩
def awS : ShopR := ⟨none, 0, [awK], none, 0, [⟨none, 0, [0]⟩], 2⟩
def awS2 : ShopR := ⟨none, 0, [awK2], none, 0, [⟨none, 0, [0]⟩], 2⟩
def awL : List JobR := [⟨none, 0, [0], 5, 0, 0, 9, 0⟩, ⟨none, 0, [0], 5, 0, 0, 9, 1⟩]
def awL3 : List JobR := [⟨none, 0, [0], 5, 0, 0, 9, 0⟩, ⟨none, 0, [0], 5, 0, 3, 9, 1⟩]
def awP : List SlotR := [⟨0, 0, 0, 5⟩, ⟨1, 0, 5, 10⟩]
def awE : List EvR := [⟨1, 0, 8, 9, 0⟩]
theorem aw_check : checkS awS awL = true := by kernel_rfl
theorem aw_check2 : checkS awS2 awL3 = true := by kernel_rfl
theorem aw_fin {t : Int} (h0 : 0 ≤ t) (h1 : t ≤ 100) : finishAt awS 0 t 5 = (t + 5, 0) := finish_always (P := 10) (by omega) (by omega) h0 (by omega) (by omega)
theorem aw_slot1 : slotE awS awL [] ⟨0, 0, 0, 5⟩ = 0 :=
  slot_parts.2 ⟨by kernel_rfl, by kernel_rfl, by decide, by
    show (openAt awS 0 0 && ((finishAt awS 0 0 5).2 == 0 && (finishAt awS 0 0 5).1 == 5)) = true
    rw [aw_fin (by omega) (by omega), show openAt awS 0 0 = true from open_always (P := 10) (by omega) (by omega) (by omega) (by omega)]; rfl⟩
theorem aw_slot2 : slotE awS awL [] ⟨1, 0, 5, 10⟩ = 0 :=
  slot_parts.2 ⟨by kernel_rfl, by kernel_rfl, by decide, by
    show (openAt awS 0 5 && ((finishAt awS 0 5 5).2 == 0 && (finishAt awS 0 5 5).1 == 10)) = true
    rw [aw_fin (by omega) (by omega), show openAt awS 0 5 = true from open_always (P := 10) (by omega) (by omega) (by omega) (by omega)]; rfl⟩
theorem aw_follows : followsB awS awL ⟨0, 0, 0, 5⟩ ⟨1, 0, 5, 10⟩ = true := by
  show (!decide ((5 : Int) < 5) && ((workAt awS 0 5 5).2 == 0 && decide (setupAt awS awL 0 1 ≤ (workAt awS 0 5 5).1))) = true
  rw [show workAt awS 0 5 5 = (0, 0) from work_always (P := 10) (by omega) (by omega) (by omega) (by omega) (by omega), show setupAt awS awL 0 1 = 0 from by kernel_rfl]; rfl
theorem aw_good : GoodS awS awL awP := by
  refine ⟨fun x hx => ?_, ?_, fun x hx => ?_⟩
  · simp only [awP, List.mem_cons, List.not_mem_nil, or_false] at hx
    rcases hx with rfl | rfl
    · exact aw_slot1
    · exact aw_slot2
  · unfold awP
    rw [List.pairwise_cons]
    refine ⟨fun b hb => ?_, List.pairwise_singleton _ _⟩
    rw [List.mem_singleton] at hb
    subst hb
    unfold sepB clashB
    rw [aw_follows]
    rfl
  · have := openN_le awL x.start awP
    have h2 : awP.length = 2 := rfl
    show _ ≤ (2 : Int)
    omega
theorem aw_valid : (validT awS awL awP).2 = 0 := validT_zero.2 ⟨aw_check, aw_good⟩
theorem aw_vb2 : validB 10 [(0, 10)] [(8, 9)] = true := by kernel_rfl
theorem aw_fin0 : finishAt awS2 0 0 5 = (5, 0) := by
  show finishV 10 [(0, 10)] [(8, 9)] 0 5 = (5, 0)
  rw [finishV_eq aw_vb2 (timeB_iff.2 (by omega)) (timeB_iff.2 (by omega))]
  exact found_at (by omega) (by omega) (fun i hi => (by decide +kernel : ∀ i, i < 5 → decide ((5 : Int) ≤ cnt (openI 10 [(0, 10)] [(8, 9)]) 0 i) = false) i (by simpa using hi)) (by decide +kernel)
theorem aw_fin5 : finishAt awS2 0 5 5 = (11, 0) := by
  show finishV 10 [(0, 10)] [(8, 9)] 5 5 = (11, 0)
  rw [finishV_eq aw_vb2 (timeB_iff.2 (by omega)) (timeB_iff.2 (by omega))]
  exact found_at (by omega) (by omega) (fun i hi => (by decide +kernel : ∀ i, i < 6 → decide ((5 : Int) ≤ cnt (openI 10 [(0, 10)] [(8, 9)]) 5 i) = false) i (by simpa using hi)) (by decide +kernel)
theorem aw_fin50 : finishAt awS2 0 5 0 = (5, 0) := by
  show finishV 10 [(0, 10)] [(8, 9)] 5 0 = (5, 0)
  rw [finishV_eq aw_vb2 (timeB_iff.2 (by omega)) (timeB_iff.2 (by omega))]
  exact found_at (by omega) (by omega) (fun i hi => by simp at hi) (by decide +kernel)
theorem aw_next : nextAt awS2 0 5 = (5, 0) := by
  show nextV 10 [(0, 10)] [(8, 9)] 5 = (5, 0)
  rw [nextV_eq aw_vb2 (timeB_iff.2 (by omega))]
  exact found_at (by omega) (by omega) (fun i hi => by simp at hi) (by decide +kernel)
theorem aw_run6 : runV 6 (startV awS awL awP 6) awE = (0, ⟨awS2, awL, [⟨0, 0, 0, 5⟩, ⟨1, 0, 5, 10⟩], [], [false, false]⟩) := by kernel_rfl
theorem aw_run3 : runV 3 (startV awS awL awP 3) awE = (0, ⟨awS2, awL, [⟨0, 0, 0, 5⟩], [⟨1, 0, 5, 10⟩], [false, false]⟩) := by kernel_rfl
theorem lastV_some {x : StP} {now : Int} {b : List SlotR} (h : endsV x.s (x.L.mapIdx (laterJ x.bg now)) x.bg = some b) : lastV x now = (0, ⟨x.s, x.L.mapIdx (laterJ x.bg now), b, sortS (x.pd.filter fun y => !x.dr.getD y.job.toNat false), x.dr⟩) := by
  unfold lastV
  rw [h]
theorem applyV_zero {s : ShopR} {L : List JobR} {plan : List SlotR} {now : Int} {evs : List EvR} {x : StP} {r : Int × StP} (h1 : (validT s L plan).2 = 0) (h2 : ¬ (now < 0 ∨ 1000000 < now)) (h3 : ¬ 20 < evs.length) (h4 : runV now (startV s L plan now) evs = (0, x)) (h5 : lastV x now = r) : applyV s L plan now evs = r := by
  unfold applyV
  rw [if_pos h1, if_neg h2, if_neg h3, h4, if_pos rfl, h5]
theorem aw_later6 : awL.mapIdx (laterJ [⟨0, 0, 0, 5⟩, ⟨1, 0, 5, 10⟩] 6) = awL := by kernel_rfl
theorem aw_later3 : awL.mapIdx (laterJ [⟨0, 0, 0, 5⟩] 3) = awL3 := by kernel_rfl
theorem aw_ends6 : endsV awS2 awL [⟨0, 0, 0, 5⟩, ⟨1, 0, 5, 10⟩] = some [⟨0, 0, 0, 5⟩, ⟨1, 0, 5, 11⟩] := by
  have h1 : finishAt awS2 0 0 (jobAt awL 0).dur = (5, 0) := by
    rw [show (jobAt awL 0).dur = 5 from by kernel_rfl]; exact aw_fin0
  have h2 : finishAt awS2 0 5 (jobAt awL 1).dur = (11, 0) := by
    rw [show (jobAt awL 1).dur = 5 from by kernel_rfl]; exact aw_fin5
  rw [endsV_cons_some2 h1, endsV_cons_some2 h2, endsV, Option.map_some, Option.map_some]
theorem aw_ends3 : endsV awS2 awL3 [⟨0, 0, 0, 5⟩] = some [⟨0, 0, 0, 5⟩] := by
  have h1 : finishAt awS2 0 0 (jobAt awL3 0).dur = (5, 0) := by
    rw [show (jobAt awL3 0).dur = 5 from by kernel_rfl]; exact aw_fin0
  rw [endsV_cons_some2 h1, endsV, Option.map_some]
theorem aw_A : applyV awS awL awP 6 awE = (0, ⟨awS2, awL, [⟨0, 0, 0, 5⟩, ⟨1, 0, 5, 11⟩], [], [false, false]⟩) := by
  refine applyV_zero aw_valid (by omega) (by decide) aw_run6 ?_
  have h := lastV_some (x := ⟨awS2, awL, [⟨0, 0, 0, 5⟩, ⟨1, 0, 5, 10⟩], [], [false, false]⟩) (now := 6) (b := [⟨0, 0, 0, 5⟩, ⟨1, 0, 5, 11⟩]) (by
    simp only [aw_later6]
    exact aw_ends6)
  simp only [aw_later6] at h
  exact h
theorem aw_B : applyV awS awL awP 3 awE = (0, ⟨awS2, awL3, [⟨0, 0, 0, 5⟩], [⟨1, 0, 5, 10⟩], [false, false]⟩) := by
  refine applyV_zero aw_valid (by omega) (by decide) aw_run3 ?_
  have h := lastV_some (x := ⟨awS2, awL, [⟨0, 0, 0, 5⟩], [⟨1, 0, 5, 10⟩], [false, false]⟩) (now := 3) (b := [⟨0, 0, 0, 5⟩]) (by
    simp only [aw_later3]
    exact aw_ends3)
  simp only [aw_later3] at h
  exact h
def awB : StP := ⟨awS2, awL3, [⟨0, 0, 0, 5⟩], [⟨1, 0, 5, 10⟩], [false, false]⟩
theorem aw_slot3 : slotE awS2 awL3 [] ⟨0, 0, 0, 5⟩ = 0 :=
  slot_parts.2 ⟨by kernel_rfl, by kernel_rfl, by decide, by
    show (openAt awS2 0 0 && ((finishAt awS2 0 0 5).2 == 0 && (finishAt awS2 0 0 5).1 == 5)) = true
    rw [aw_fin0, show openAt awS2 0 0 = true from by kernel_rfl]; rfl⟩
theorem aw_slot4 : slotE awS2 awL3 [] ⟨1, 0, 5, 11⟩ = 0 :=
  slot_parts.2 ⟨by kernel_rfl, by kernel_rfl, by decide, by
    show (openAt awS2 0 5 && ((finishAt awS2 0 5 5).2 == 0 && (finishAt awS2 0 5 5).1 == 11)) = true
    rw [aw_fin5, show openAt awS2 0 5 = true from by kernel_rfl]; rfl⟩
theorem aw_follows2 : followsB awS2 awL3 ⟨0, 0, 0, 5⟩ ⟨1, 0, 5, 11⟩ = true := by
  show (!decide ((5 : Int) < 5) && ((workAt awS2 0 5 5).2 == 0 && decide (setupAt awS2 awL3 0 1 ≤ (workAt awS2 0 5 5).1))) = true
  rw [show workAt awS2 0 5 5 = (0, 0) from by kernel_rfl, show setupAt awS2 awL3 0 1 = 0 from by kernel_rfl]; rfl
theorem aw_good1 : GoodS awS2 awL3 [⟨0, 0, 0, 5⟩] := by
  refine ⟨fun x hx => ?_, List.pairwise_singleton _ _, fun x hx => ?_⟩
  · rw [List.mem_singleton] at hx
    subst hx
    exact aw_slot3
  · have := openN_le awL3 x.start [⟨0, 0, 0, 5⟩]
    have h2 : [(⟨0, 0, 0, 5⟩ : SlotR)].length = 1 := rfl
    show _ ≤ (2 : Int)
    omega
theorem aw_good2 : GoodS awS2 awL3 [⟨0, 0, 0, 5⟩, ⟨1, 0, 5, 11⟩] := by
  refine ⟨fun x hx => ?_, ?_, fun x hx => ?_⟩
  · simp only [List.mem_cons, List.not_mem_nil, or_false] at hx
    rcases hx with rfl | rfl
    · exact aw_slot3
    · exact aw_slot4
  · rw [List.pairwise_cons]
    refine ⟨fun b hb => ?_, List.pairwise_singleton _ _⟩
    rw [List.mem_singleton] at hb
    subst hb
    unfold sepB clashB
    rw [aw_follows2]
    rfl
  · have := openN_le awL3 x.start [⟨0, 0, 0, 5⟩, ⟨1, 0, 5, 11⟩]
    have h2 : [(⟨0, 0, 0, 5⟩ : SlotR), ⟨1, 0, 5, 11⟩].length = 2 := rfl
    show _ ≤ (2 : Int)
    omega
theorem aw_bad : ¬ (validT awS2 awL3 [⟨0, 0, 0, 5⟩, ⟨1, 0, 5, 10⟩]).2 = 0 := by
  intro h
  have h1 := (validT_zero.1 h).2.1 ⟨1, 0, 5, 10⟩ (by simp)
  have h2 := (slot_parts.1 h1).2.2.2
  have h3 : (openAt awS2 0 5 && ((finishAt awS2 0 5 5).2 == 0 && (finishAt awS2 0 5 5).1 == 10)) = true := h2
  rw [aw_fin5] at h3
  simp at h3
theorem aw_dis : dispatchV awS2 awL3 [⟨0, 0, 0, 5⟩] 1 = some ⟨1, 0, 5, 11⟩ := by
  unfold dispatchV
  have hb : beginV awS2 awL3 1 0 (jobAt awL3 1).rel [⟨0, 0, 0, 5⟩] = some 5 := by
    rw [show (jobAt awL3 1).rel = 3 from by kernel_rfl]
    exact (begin_one (x := ⟨0, 0, 0, 5⟩) (t := 5) rfl (by
      rw [show setupAt awS2 awL3 (⟨0, 0, 0, 5⟩ : SlotR).job 1 = 0 from by kernel_rfl]
      exact aw_fin50)).trans (by rw [show imax 3 5 = 5 from by kernel_rfl])
  have ho : onV awS2 awL3 [⟨0, 0, 0, 5⟩] 1 0 = some ⟨1, 0, 5, 11⟩ :=
    (onV_hit hb (show sortI (5 :: endsOf 5 [⟨0, 0, 0, 5⟩]) = [5] from by kernel_rfl)).trans (firstFit_hit (n := 5) (e := 11) aw_next (by rw [show (jobAt awL3 1).dur = 5 from by kernel_rfl]; exact aw_fin5) (by
      rw [List.singleton_append]
      exact validV_good.2 aw_good2))
  rw [show (jobAt awL3 1).ms = [0] from rfl, List.foldl_cons, List.foldl_nil, ho]
  rfl
theorem keepV_zero {x : StP} {kept : List Int} {l a : List SlotR} {r b : List Int} (hk : keptB x.pd.length (-1) kept = true) (hl : x.bg ++ keptL x kept = l) (hv : (validT x.s x.L l).2 = 0) (hr : restV x l = r) (hd : dispAll x.s x.L l [] r = (a, b)) : keepV x kept = (0, ⟨a, sortI (movedL x kept), sortI b⟩) := by
  unfold keepV
  rw [if_pos hk, hl, if_pos hv, hr, hd]
theorem keepV_bad {x : StP} {kept : List Int} {l : List SlotR} (hk : keptB x.pd.length (-1) kept = true) (hl : x.bg ++ keptL x kept = l) (hv : ¬ (validT x.s x.L l).2 = 0) : keepV x kept = (31, noRes) := by
  unfold keepV
  rw [if_pos hk, hl, if_neg hv]
theorem dispAll_one {s : ShopR} {L : List JobR} {l : List SlotR} {j : Int} {y : SlotR} (h : dispatchV s L l j = some y) : dispAll s L l [] [j] = (l ++ [y], []) := by
  rw [dispAll, h]
  rfl
theorem chosen_one {x : StP} (hb : ¬ (validT x.s x.L (x.bg ++ [x.pd.getD 0 noSlot])).2 = 0) : (chosenTo x 1).2 = [] := by
  rw [chosenTo]
  rw [if_neg (show ¬ (validT x.s x.L ((chosenTo x 0).1 ++ [x.pd.getD 0 noSlot])).2 = 0 from hb)]
  rfl
theorem least_one {x : StP} {r : ResR} (hn : x.pd.length = 1) (h1 : (keepV x (bitsL 1 1)).1 ≠ 0) (h0 : keepV x (bitsL 1 0) = (0, r)) : leastV x = (0, r) := by
  unfold leastV
  rw [if_neg (by omega), hn]
  have e1 : leastStep x none 1 = none := by
    unfold leastStep
    rw [hn, if_neg h1]
  have e0 : leastStep x none 0 = some r := by
    unfold leastStep
    rw [hn, h0, if_pos rfl]
  have e2 : leastTo x 2 none = some r := by
    rw [leastTo, e1, leastTo, e0, leastTo]
  rw [show 2 ^ 1 = 2 from rfl, e2]
theorem aw_moved : movedL awB [] = [1] := by kernel_rfl
theorem aw_rest : restV awB [⟨0, 0, 0, 5⟩] = [1] := by kernel_rfl
theorem aw_sort0 : sortI ([] : List Int) = [] := by kernel_rfl
theorem aw_sort1 : sortI [1] = [1] := by kernel_rfl
theorem aw_keep : keepV awB [] = (0, ⟨[⟨0, 0, 0, 5⟩, ⟨1, 0, 5, 11⟩], [1], []⟩) := by
  have h := keepV_zero (x := awB) (kept := []) (by kernel_rfl) rfl (validT_zero.2 ⟨aw_check2, aw_good1⟩) aw_rest (dispAll_one aw_dis)
  rw [aw_moved, aw_sort0, aw_sort1] at h
  exact h
theorem aw_replan : replanV awB = (0, ⟨[⟨0, 0, 0, 5⟩, ⟨1, 0, 5, 11⟩], [1], []⟩) := by
  unfold replanV
  rw [show awB.pd.length = 1 from rfl, chosen_one (x := awB) aw_bad, aw_keep]
theorem aw_least : leastV awB = (0, ⟨[⟨0, 0, 0, 5⟩, ⟨1, 0, 5, 11⟩], [1], []⟩) :=
  least_one (x := awB) rfl (by rw [keepV_bad (x := awB) (kept := bitsL 1 1) (by kernel_rfl) (show awB.bg ++ keptL awB (bitsL 1 1) = [⟨0, 0, 0, 5⟩, ⟨1, 0, 5, 10⟩] from by kernel_rfl) aw_bad]; decide) (by rw [show bitsL 1 0 = [] from by kernel_rfl]; exact aw_keep)
end Go.Proofs.YtpaojgfmffkodaaGreat
