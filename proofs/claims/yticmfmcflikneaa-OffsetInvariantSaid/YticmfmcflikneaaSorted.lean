/- vec.Sorted: Clone, SortFunc, Compact. -/
import Derived.Test.YticmfmcflikneaaSort
import Derived.Test.YticmfmcflikneaaPlain06
import Derived.Deep.LoopGhost
import Derived.Lib.SlicesCompact
namespace Go.Proofs.Yticmfmcflikneaa
open Go.RowKit Go.Sort
set_option linter.unusedVariables false

theorem ltOf_cmpV (p q : Int × Int) : ltOf cmpV p q = decide (p.2 < q.2 ∨ (p.2 = q.2 ∧ p.1 < q.1)) := by
  unfold ltOf cmpV
  rcases vcmp_cases p.1 p.2 q.1 q.2 with ⟨h, e⟩ | ⟨h, e⟩ | ⟨h1, h2, e⟩ <;> rw [e] <;> simp <;> omega
theorem swoV : SWO (ltOf cmpV) where
  irrefl x := by rw [ltOf_cmpV]; simp
  trans x y z h1 h2 := by rw [ltOf_cmpV] at *; simp at *; omega
  ntrans x y z h1 h2 := by rw [ltOf_cmpV] at *; simp at *; omega
theorem totV (x y : Int × Int) (h1 : ltOf cmpV x y = false) (h2 : ltOf cmpV y x = false) : x = y := by
  rw [ltOf_cmpV] at *; simp at *
  have a : x.1 = y.1 := by omega
  have b : x.2 = y.2 := by omega
  exact Prod.ext a b

theorem cmpLaysV (blk off size : Nat) (w : World) : CmpLays Try.prog 98 #[] encV 2 cmpV blk off size w := by
  intro m os dk _ x y
  refine (compare_any x.1 x.2 y.1 y.2 _).calls.mono ?_
  rintro e _ ⟨rfl, z, rfl⟩
  exact ⟨rfl, grow_of_later z⟩

theorem sort_any (g off c : Nat) (l : List (Int × Int)) (w : World) (hL : Live encV 2 w g off l) (hn : l.length < 4611686018427387904) :
    Calls Try.prog 93 #[.slice (some ⟨g, off, none⟩) l.length c, .func (.func 98) #[] #[]] w fun e w' => e = .returned (.tuple #[]) ∧ Live encV 2 w' g off (vsort l) ∧ w.grownBy w' (some g) := by
  have eg : ∀ args w, (callFunc 98 args).run Try.prog w = .ok (.enter 98 args) w := Go.Proofs.enters_of Try.func98 (by kernel_rfl) rfl
  have hg : g < w.heap.size := hL.row.there.elim fun h => h.lt
  have hcon := AnyQ.slices_SortFunc_total Try.sortVec 2 Try.isAgg32 Try.sizeOf32 encV encV_len encV_one cmpV swoV 98 #[] g off c l.toArray w eg (cmpLaysV g off l.toArray.size w) (hL.holds encV_len (by omega)) hg (by simpa using hn) totV
  change Calls Try.prog 93 _ _ _ at hcon
  simp only [List.size_toArray] at hcon
  refine hcon.mono ?_
  rintro e w' ⟨rfl, n, os, rfl⟩
  refine ⟨rfl, ?_, sortWorld_grown encV 2 w g off n _ os⟩
  refine live_of_holds encV_len (by omega) ?_ ?_
  · have := (sortWorld_grown encV 2 w g off n (l.toArray.toList.mergeSort fun x y => !(ltOf cmpV) y x).toArray os).size; exact Nat.lt_of_lt_of_le hg this
  · have h1 := holdsK_putRowK encV 2 (Sort.ahead w n) g off l.toArray (vsort l).toArray (holdsK_ahead encV 2 w n g off _ (hL.holds encV_len (by omega))) (by simp [vsort_length])
    have h2 := holdsK_grow encV 2 _ os g off (vsort l).toArray (by simpa [putRowK, putRow, mapBlock, Sort.ahead] using hg) h1
    exact h2

/-- What slices.Compact leaves of a list. -/
def compactV (l : List (Int × Int)) : List (Int × Int) := Lib.compactUpTo l.toArray l.length

theorem run_clear_row {P : Program} (w : World) (t e : TypeId) (z : Value) (k : Nat) (ht : P.underlying t = some (.slice e)) (hv : ∀ w, (zeroValue e).run P w = .ok z w) (hzs : z.cells.size = k) (hk0 : 0 < k) (h1 : ∀ u ∈ z.cells.toList, u.oneCell' = true) (b o n c : Nat) (hn : 0 < n)
    (hc : ∀ j, j < n * k → (w.cell? ⟨b, o + j, none⟩).isSome = true) (hf : ∀ j, j < n * k → w.frozen? ⟨b, o + j, none⟩ = false) :
    ∃ vs : List Value, vs.length = n * k ∧ ∀ ty, (Builtin.clear_ #[t] ty #[.slice (some ⟨b, o, none⟩) n c]).run P w = .ok (.tuple #[]) (w.setCells b o vs) := by
  have hlen : (Builtin.zeroCells z.cells n).toList.length = n * k := by rw [Array.length_toList, size_zeroCells, hzs]
  have hone : ∀ v ∈ (Builtin.zeroCells z.cells n).toList, v.oneCell' = true := by
    intro v hv'
    simp only [Builtin.zeroCells, Array.toList_map, List.mem_map] at hv'
    obtain ⟨i, _, rfl⟩ := hv'
    refine h1 _ ?_
    have hlt : i % z.cells.size < z.cells.size := Nat.mod_lt _ (by omega)
    rw [getElem!_pos z.cells (i % z.cells.size) hlt]
    exact Array.getElem_mem_toList hlt
  have hst := run_storeCells_cells (P := P) b o (Builtin.zeroCells z.cells n).toList 0 w (by rw [hlen]; simpa using hc) (by rw [hlen]; simpa using hf) hone
  simp only [Nat.add_zero] at hst
  obtain ⟨m, rfl⟩ : ∃ m, n = m + 1 := ⟨n - 1, by omega⟩
  exact ⟨_, hlen, fun ty => by simp [Builtin.clear_, run_underlying ht, hv, hst]⟩

set_option maxHeartbeats 1000000 in
theorem compact_any (g off c : Nat) (l : List (Int × Int)) (w : World) (hL : Live encV 2 w g off l) (hn : l.length ≤ 4611686018427387904) (hc : l.length ≤ c) :
    Calls Try.prog 66 #[.slice (some ⟨g, off, none⟩) l.length c] w fun e w' => e = .returned (.slice (some ⟨g, off, none⟩) (compactV l).length c) ∧ Live encV 2 w' g off (compactV l) ∧ w.grownBy w' (some g) := by
  by_cases h2 : l.length < 2
  · have hcomp : compactV l = l := by
      unfold compactV
      rw [show l.length = l.toArray.size from by simp, Lib.compactUpTo_all _ _ (fun j hj => Lib.keeps_lt_one _ j (by simp at hj; omega)), Lib.range_map_get]
    rw [hcomp]
    go_enter Try.func66, Try.ntmps66
    go_wp2
    go_returns
    exact ⟨rfl, hL, World.grownBy.refl _ _⟩
  · have HL := Lib.hid hL
    clear hL
    go_enter Try.func66, Try.ntmps66
    go_wp2
    go_loopg [3] l.length (fun n s3 wr => ∃ k : Nat, 1 ≤ k ∧ k ≤ l.length ∧ l.length - k ≤ n ∧ s3 = .int .i64 k ∧ LaterOf w wr ∧ ∀ j, j < k → Lib.keeps l.toArray j = true)
    case atStart => exact ⟨1, by omega, by omega, by omega, rfl, LaterOf.refl w, Lib.keeps_lt_one _⟩
    case round =>
      obtain ⟨k, hk1, hk, hg, rfl, ⟨z, rfl⟩, hall⟩ := hrel
      have A := Lib.hid hall
      clear hall
      by_cases hlt : k < l.length
      · have hLz := HL.out.of (LaterOf.since ⟨z, rfl⟩)
        have hO := hLz.row.there
        have c0 := hLz.row.v0 k hlt
        have c1 := hLz.row.v1 k hlt
        have d0 := hLz.row.v0 (k - 1) (by omega)
        have d1 := hLz.row.v1 (k - 1) (by omega)
        clear hLz
        have e1 : l.toArray[k]! = l[k] := by simp [hlt]
        have e2 : l.toArray[k - 1]! = l[k - 1] := by simp [show k - 1 < l.length from by omega]
        obtain ⟨⟨p0, p1⟩, hp⟩ : ∃ p, p = l[k] := ⟨_, rfl⟩
        obtain ⟨⟨q0, q1⟩, hq⟩ : ∃ q, q = l[k - 1] := ⟨_, rfl⟩
        rw [← hp] at c0 c1 e1
        rw [← hq] at d0 d1 e2
        have B := Lib.hid (And.intro e1 e2)
        clear hp hq e1 e2
        simp only at c0 c1 d0 d1
        by_cases hdup : eqv p0 p1 q0 q1 = true
        · obtain ⟨rfl, rfl⟩ := eqv_iff.1 hdup
          have hck : ¬ c = k := by omega
          have hkc : k ≤ c := by omega
          go_wp2_with fail
          refine region_later (by kernel_rfl) (by kernel_rfl) ?_
          repeat (go_big_quiet_step (fail))
          refine wpQuiet_nil ?_
          rintro _ ⟨z2, rfl⟩
          go_wp2_with fail
          clear c0 c1 d0 d1
          go_loopg [3, 5] l.length (fun n s3 s5 wr => ∃ (kk k2 : Nat) (m : List (Int × Int)), s3 = .int .i64 kk ∧ s5 = .int .i64 k2 ∧ 1 ≤ k2 ∧ k + k2 ≤ l.length ∧ l.length - (k + k2) ≤ n ∧ w.grownBy wr (some g) ∧ Live encV 2 wr g off m ∧ Lib.CompInv l.toArray (k + k2) kk m.toArray)
          case atStart =>
            exact ⟨k, 1, l, rfl, rfl, by omega, by omega, by omega, (z.grownBy _).trans (z2.grownBy _), (HL.out.of (LaterOf.since ⟨z, rfl⟩)).of (LaterOf.since ⟨z2, rfl⟩),
              Lib.CompInv.start A.out (Lib.keeps_neg (by omega) (by rw [B.out.1, B.out.2]))⟩
          case round =>
            obtain ⟨kk, k2, m, rfl, rfl, h1, hle, hg2, hgr, hLm, hI⟩ := hrel
            have hkk := hI.lt
            have hms : m.length = l.length := by simpa using hI.size
            have GR := Lib.hid hgr
            have LM := Lib.hid hLm
            have I2 := Lib.hid hI
            have MS := Lib.hid hms
            clear hgr hI
            by_cases hlt2 : k + k2 < l.length
            · have hO2 := hLm.row.there
              have c0 := hLm.row.v0 (k + k2) (by omega)
              have c1 := hLm.row.v1 (k + k2) (by omega)
              have d0 := hLm.row.v0 (k + k2 - 1) (by omega)
              have d1 := hLm.row.v1 (k + k2 - 1) (by omega)
              have o0 := hLm.row.v0 kk (by omega)
              have o1 := hLm.row.v1 kk (by omega)
              have f0 := hLm.free (kk * 2) (by omega)
              have f1 := hLm.free (kk * 2 + 1) (by omega)
              rw [← Nat.add_assoc] at f1
              rw [show off + (k + k2) * 2 = off + k * 2 + k2 * 2 from by omega] at c0 c1
              rw [show off + (k + k2 - 1) * 2 = off + k * 2 + (k2 - 1) * 2 from by omega] at d0 d1
              have e1 : m.toArray[k + k2]! = l.toArray[k + k2]! := I2.out.high _ (by omega)
              have e2 : m.toArray[k + k2 - 1]! = l.toArray[k + k2 - 1]! := I2.out.high _ (by omega)
              rw [show m.toArray[k + k2]! = m[k + k2] from by simp [show k + k2 < m.length from by omega]] at e1
              rw [show m.toArray[k + k2 - 1]! = m[k + k2 - 1] from by simp [show k + k2 - 1 < m.length from by omega]] at e2
              obtain ⟨⟨x0, x1⟩, hx⟩ : ∃ x, x = m[kk] := ⟨_, rfl⟩
              rw [← hx] at o0 o1
              obtain ⟨⟨u0, u1⟩, hu⟩ : ∃ u, u = m[k + k2] := ⟨_, rfl⟩
              obtain ⟨⟨v0, v1⟩, hv⟩ : ∃ v, v = m[k + k2 - 1] := ⟨_, rfl⟩
              rw [← hu] at c0 c1 e1
              rw [← hv] at d0 d1 e2
              have C := Lib.hid (And.intro e1 e2)
              clear hu hv hx e1 e2 hLm hms
              simp only at c0 c1 d0 d1 o0 o1
              by_cases huv : eqv u0 u1 v0 v1 = true
              · obtain ⟨rfl, rfl⟩ := eqv_iff.1 huv
                go_wp2_with fail
                refine region_later (by kernel_rfl) (by kernel_rfl) ?_
                repeat (go_big_quiet_step (fail))
                refine wpQuiet_nil ?_
                rintro _ ⟨z3, rfl⟩
                go_wp2_with fail
                go_roundg (l.length - (k + (k2 + 1)))
                case measure => omega
                case rel => exact ⟨kk, k2 + 1, m, rfl, by go_num, by omega, by omega, Nat.le_refl _, GR.out.trans (z3.grownBy _), LM.out.of (LaterOf.since ⟨z3, rfl⟩), I2.out.skip (Lib.keeps_neg (by omega) (by rw [← C.out.1, ← C.out.2]))⟩
              · have hne : eqv u0 u1 v0 v1 = false := by simpa using huv
                clear huv
                go_wp2_with fail
                refine region_later (by kernel_rfl) (by kernel_rfl) ?_
                repeat (go_big_quiet_step (fail))
                refine wpQuiet_nil ?_
                rintro _ ⟨z3, rfl⟩
                go_wp2_with fail
                go_roundg (l.length - (k + (k2 + 1)))
                case measure => omega
                case rel =>
                  have hk3 : Lib.keeps l.toArray (k + k2) = true := Lib.keeps_pos (by
                    rw [← C.out.1, ← C.out.2]
                    intro h
                    injection h with h1 h2
                    rw [h1, h2, eqv_self] at hne
                    cases hne)
                  have I3 := I2.out.keep (by simpa using hlt2) hk3
                  rw [← C.out.1] at I3
                  exact ⟨kk + 1, k2 + 1, m.set kk (u0, u1), by go_num, by go_num, by omega, by omega, Nat.le_refl _, ((GR.out.trans (z3.grownBy _)).trans (grownBy_setCell rfl _)).trans (grownBy_setCell rfl _), (LM.out.of (LaterOf.since ⟨z3, rfl⟩)).set kk (by have := MS.out; omega) _ _, by simpa [Nat.add_assoc] using I3⟩
            · have hend : k + k2 = l.length := by omega
              have hn2 : 0 < l.length - kk := by omega
              obtain ⟨vs, hvs, hcl⟩ := run_clear_row (P := Try.prog) wr 22 32 (.agg #[.int .i64 0, .int .i64 0]) 2 Try.underlying22 Try.zeroValue32 rfl (by omega) (by intro u hu; simp [Value.cells] at hu; rcases hu with rfl | rfl <;> rfl) g (off + kk * 2) (l.length - kk) (c - kk) hn2
                (fun j hj => by
                  have hq := hLm.row.cells (kk + j / 2) (by omega) (j % 2) ((encV m[kk + j / 2])[j % 2]'(by rw [encV_len]; omega)) (List.getElem?_eq_getElem _)
                  rw [show off + kk * 2 + j = off + (kk + j / 2) * 2 + j % 2 from by omega, hq]; rfl)
                (fun j hj => by
                  have hq := hLm.free (kk * 2 + j) (by omega)
                  rwa [← Nat.add_assoc] at hq)
              have hck2 : ¬ c = kk := by omega
              have hkc2 : kk ≤ c := by omega
              have hkl2 : kk ≤ l.length := by omega
              have HE := Lib.hid hend
              clear hLm hms hvs hend
              go_wp2
              go_returns
              have hI := I2.out
              rw [HE.out] at hI
              have hcomp : compactV l = m.take kk := by
                unfold compactV
                apply List.ext_getElem?
                intro j
                by_cases hj : j < kk
                · rw [hI.low j hj, List.getElem?_take, if_pos hj]
                  have := MS.out
                  simp [show j < m.length from by omega]
                · rw [List.getElem?_eq_none (by rw [hI.len]; omega), List.getElem?_eq_none (by rw [List.length_take]; omega)]
              have hlen2 : (m.take kk).length = kk := by rw [List.length_take, MS.out]; omega
              rw [hcomp, hlen2]
              exact ⟨rfl, (LM.out.take kk).behind encV_len _ (by rw [hlen2]; exact Nat.le_refl _) _, GR.out.trans (grownBy_setCells g _ _ _)⟩
        · have hne : eqv p0 p1 q0 q1 = false := by simpa using hdup
          clear hdup
          go_wp2_with fail
          refine region_later (by kernel_rfl) (by kernel_rfl) ?_
          repeat (go_big_quiet_step (fail))
          refine wpQuiet_nil ?_
          rintro _ ⟨z2, rfl⟩
          go_wp2_with fail
          go_roundg (l.length - (k + 1))
          case measure => omega
          case rel =>
            refine ⟨k + 1, by omega, by omega, Nat.le_refl _, by go_num, by (repeat (first | (with_reducible exact LaterOf.refl _) | (with_reducible refine LaterOf.alloc ?_ _) | (with_reducible refine LaterOf.drew ?_) | (with_reducible refine LaterOf.drewN ?_ _) | (with_reducible refine LaterOf.later ?_ _) | (with_reducible refine LaterOf.setCell ?_ (by first | exact Nat.le_refl _ | (simp; done) | omega | (simp; omega)) _))), fun j hj => ?_⟩
            by_cases e : j = k
            · subst e
              refine Lib.keeps_pos ?_
              rw [B.out.1, B.out.2]
              intro h
              injection h with h1 h2
              rw [h1, h2, eqv_self] at hne
              cases hne
            · exact A.out j (by omega)
      · have hcomp : compactV l = l := by
          unfold compactV
          rw [show l.length = l.toArray.size from by simp, Lib.compactUpTo_all _ _ (fun j hj => A.out j (by simp at hj; omega)), Lib.range_map_get]
        have HC := Lib.hid hcomp
        clear hcomp
        go_wp2
        go_returns
        rw [HC.out]
        exact ⟨rfl, HL.out.of (LaterOf.since ⟨z, rfl⟩), z.below.os, z.below.tape, z.below.output, z.below.size, fun i hi _ => z.below.block i hi⟩

theorem compact_none (A : Option Addr) (c : Nat) (w : World) :
    Calls Try.prog 66 #[.slice A 0 c] w fun e w' => e = .returned (.slice A 0 c) ∧ w = w' := by
  go_enter Try.func66, Try.ntmps66
  go_wp2
  go_returns
  exact ⟨rfl, rfl⟩

def sortedV (l : List (Int × Int)) : List (Int × Int) := compactV (vsort l)
end Go.Proofs.Yticmfmcflikneaa
