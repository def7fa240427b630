/- Layer 54: the law's apply: the state behind the events of a small case. -/
import Derived.Test.YtpaojgfmffkodaaGreatARep18
import Derived.Test.YtpaojgfmffkodaaGreatARep2
import Derived.Test.YtpaojgfmffkodaaGreatARepP13
namespace Go.Proofs.YtpaojgfmffkodaaGreat
set_option linter.unusedVariables false
set_option linter.unusedSimpArgs false
open Go.RowKit Go.Sort
attribute [local go_sem ↓] Go.wp_at_zero Go.wp_at_succ
theorem stepV_len (x : StP) (now : Int) (v : EvR) : (stepV x now v).2.L.length ≤ x.L.length + 1 := by
 unfold stepV shutV dropV againV setCal
 (repeat' split) <;> (try simp)
theorem runV_len (now : Int) : ∀ (evs : List EvR) (x : StP), (runV now x evs).2.L.length ≤ x.L.length + evs.length
 | [], x => Nat.le_refl _
 | v :: r, x => by
   rw [runV_cons]
   have h := stepV_len x now v
   split
   · have := runV_len now r (stepV x now v).2
     simp only [List.length_cons]
     omega
   · simp only [List.length_cons]
     omega
theorem Applied.lens {s : ShopR} {L : List JobR} {plan : List SlotR} {now : Int} {evs : List EvR} {x1 x : StP} {b : List SlotR} (h : Applied s L plan now evs x1 b x) : x.L.length ≤ L.length + evs.length ∧ x.bg.length ≤ plan.length ∧ x.pd.length ≤ plan.length ∧ x.dr.length = x.L.length := by
 have h1 := runV_len now evs (startV s L plan now)
 rw [← h.run] at h1
 have e1 : (startV s L plan now).L.length = L.length := erL_length L
 have e2 := (ends_map h.ends).1
 have e3 := h.inv.bg
 have e4 := h.inv.pd
 have e5 := h.inv.dr
 rw [h.x]
 simp only [List.length_mapIdx]
 refine ⟨by omega, ?_, ?_, e5⟩
 · rw [e2, List.length_map, e3]
   exact List.length_filter_le _ _
 · rw [(sortS_perm _).length_eq, e4]
   exact Nat.le_trans (List.length_filter_le _ _) (List.length_filter_le _ _)
theorem small_few {s : ShopR} {L : List JobR} {l : List SlotR} {now : Int} {en : Nat} (h : smallK s L l now en = true) : fewP s L = true ∧ l.length ≤ 8 ∧ en ≤ 25 := by
 unfold smallK at h
 simp only [Bool.and_eq_true, decide_eq_true_eq] at h
 obtain ⟨-, -, h1, h2, h3, -⟩ := h
 exact ⟨h1, by omega, by omega⟩
theorem few_lens54 {s : ShopR} {L : List JobR} (h : fewP s L = true) : s.cals.length ≤ 3 ∧ L.length ≤ 8 ∧ s.rows.length ≤ 9 := by
 unfold fewP at h
 simp only [Bool.and_eq_true, decide_eq_true_eq] at h
 obtain ⟨-, -, h1, h2, h3⟩ := h
 exact ⟨by omega, by omega, by omega⟩
theorem applyV_cals (s : ShopR) (A : Option Addr) (c : Nat) (L : List JobR) (plan : List SlotR) (now : Int) (evs : List EvR) : applyV (withCals s A c) L plan now evs = applyV s L plan now evs := by
 rw [applyV_er (withCals s A c), applyV_er s]
 rfl
theorem stAlloc {n : Nat} {W : World} {y : StR} (h : StFrom n W y) (o : Obj) : StFrom n (W.alloc o) y := h.of ((SinceOf.refl _).alloc _)
theorem applyC_any (s : ShopR) (L : List JobR) (plan : List SlotR) (now : Int) (evs : List EvR) (cA : Option Addr) (cc : Nat) (jA : Option Addr) (jc : Nat) (sA : Option Addr) (sc : Nat) (eA : Option Addr) (ec : Nat) (w W : World) (hs : IsShop w s) {A : Option Addr} {c : Nat} (hL : IsJobs w A c L) (h1 : IsRow encC 3 W cA cc s.cals) (h2 : IsRow encJ 6 W jA jc L) (h3 : IsSlots W sA sc plan) (h4 : IsEvs W eA ec evs) (hW : SinceOf w W) (hpl : plan.length ≤ 1000000) (hpc : plan.length ≤ sc) (hel : evs.length ≤ 1000000) :
 Calls Tryz.prog 11 #[.agg #[.slice cA s.cals.length cc, .slice s.B s.rows.length s.d, .int .i64 s.most], .slice jA L.length jc, .slice sA plan.length sc, .int .i64 now, .slice eA evs.length ec] W fun e w' => ∃ y : StR, e = .returned (.tuple #[stateV y, .int .i64 (applyV s L plan now evs).1]) ∧ erSt y = (applyV s L plan now evs).2 ∧ StFrom W.heap.size w' y ∧ SinceOf W w' := by
 have h := apply_any (withCals s cA cc) jA jc L sA sc plan now eA ec evs W (shop_at hs h1 hW) (jobs_at hL h2 hW) h3 h4 hpl hpc (by omega)
 rw [applyV_cals] at h
 exact h
end Go.Proofs.YtpaojgfmffkodaaGreat
