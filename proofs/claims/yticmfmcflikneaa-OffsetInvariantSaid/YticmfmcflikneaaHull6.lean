/- Layer 10: Reverse, Grow, Concat at points; begin. -/
import Derived.Test.YticmfmcflikneaaHull4
import Derived.Test.YticmfmcflikneaaSortLay
import Derived.Shelf.SlicesQ.Reverse
import Derived.Lib.AppendZerosOnto
import Derived.Deep.RegionHeld3
namespace Go.Proofs.Yticmfmcflikneaa
open Go.RowKit Go.Sort
set_option linter.unusedVariables false
attribute [local go_sem ↓] Go.wp_at_zero Go.wp_at_succ

theorem ahead_grown {α : Type} [Inhabited α] (enc : α → List Value) (k : Nat) (w : World) (n g off : Nat) (d : Array α) : w.grownBy (putRowK enc k (Sort.ahead w n) g off d) (some g) := by
  have := sortWorld_grown enc k w g off n d #[]
  simpa [sortWorldK, grow] using this
theorem reverse_any (g off c : Nat) (l : List (Int × Int)) (w : World) (hL : Live encV 2 w g off l) (hn : l.length < 4611686018427387904) :
    Calls Try.prog 69 #[.slice (some ⟨g, off, none⟩) l.length c] w fun e w' => e = .returned (.tuple #[]) ∧ Live encV 2 w' g off l.reverse ∧ w.grownBy w' (some g) := by
  have hg : g < w.heap.size := hL.row.there.elim fun h => h.lt
  have hcon := AnyQ.slices_Reverse Try.revVec 2 Try.isAgg32 Try.sizeOf32 encV encV_len encV_one g off c l.toArray w (hL.holds encV_len (by omega)) (by simpa using (by omega : l.length ≤ 9223372036854775807))
  change Calls Try.prog 69 _ _ _ at hcon
  simp only [List.size_toArray] at hcon
  refine hcon.mono ?_
  rintro e w' ⟨rfl, n, rfl⟩
  have hgr := ahead_grown encV 2 w n g off l.toArray.reverse
  refine ⟨rfl, ?_, hgr⟩
  refine live_of_holds encV_len (by omega) (Nat.lt_of_lt_of_le hg hgr.size) ?_
  have h1 := holdsK_putRowK encV 2 (Sort.ahead w n) g off l.toArray l.reverse.toArray (holdsK_ahead encV 2 w n g off _ (hL.holds encV_len (by omega))) (by simp)
  rw [List.reverse_toArray]
  exact h1
set_option maxHeartbeats 4000000 in
set_option maxRecDepth 100000 in
theorem growV_any (n : Nat) (hn : n * 16 ≤ 140737488355328) (w : World) :
    Calls Try.prog 107 #[.slice none 0 0, .int .i64 n] w fun e w' => ∃ A' c', e = .returned (.slice A' 0 c') ∧ OwnVecs w.heap.size w' A' c' [] ∧ SinceOf w w' := by
  by_cases h0 : n = 0
  · subst h0
    go_enter Try.func107, Try.ntmps107
    go_wp2
    go_returns
    exact ⟨none, 0, rfl, Owns.nil _ _ _ _ _, SinceOf.refl _⟩
  · obtain ⟨i0, hi, hz0, hz1, hz2⟩ := info_parts infoVec
    have hold : (Builtin.firstCells i0.size 0 (.slice none 0 0)).run Try.prog w.drew = .ok #[] w.drew := run_firstCells_none w.drew i0.size 0 0 0
    have hrz : ∀ ty, (Builtin.append_ #[25, 3] ty #[.slice none 0 0, .int .i64 (n : Int)]).run Try.prog w =
        .ok (.slice (some ⟨w.heap.size, 0, none⟩) n (grownCap w n 0 32)) (w.drew.alloc (.cells (#[] ++ Builtin.zeroCells (Value.agg #[.int .i64 0, .int .i64 0]).cells n ++ Builtin.zeroCells (Value.agg #[.int .i64 0, .int .i64 0]).cells (grownCap w n 0 32 - n)) 32)) := fun ty => by
      have h := Lib.run_append_grow_zeros w 25 3 ty 32 i0 _ .i64 .i64 Try.underlying25 Try.underlying3 hi hz0 none 0 0 [] hold n (by omega) (by omega) (by omega) (by omega) (by rw [hz2]; omega) (by rw [Nat.zero_add, hz2]; exact growslice_fits (by omega) hn)
      simpa only [Nat.zero_add] using h
    have hGn : n ≤ grownCap w n 0 32 := grownCap_ge w _ _ _
    have hG63 : grownCap w n 0 32 ≤ maxLen := grownCap_le_maxLen w n 0 32 (by unfold maxLen; omega)
    have hG : ((#[] ++ Builtin.zeroCells (Value.agg #[.int .i64 0, .int .i64 0]).cells n ++ Builtin.zeroCells (Value.agg #[.int .i64 0, .int .i64 0]).cells (grownCap w n 0 32 - n))).size = grownCap w n 0 32 * 2 := by
      rw [Array.size_append, Array.size_append, size_zeroCells, size_zeroCells]
      show 0 + n * 2 + (grownCap w n 0 32 - n) * 2 = _
      omega
    generalize grownCap w n 0 32 = G at *
    generalize #[] ++ Builtin.zeroCells (Value.agg #[.int .i64 0, .int .i64 0]).cells n ++ Builtin.zeroCells (Value.agg #[.int .i64 0, .int .i64 0]).cells (G - n) = cs at *
    have hG2 : G ≤ 9223372036854775807 := by unfold maxLen at hG63; omega
    have HG := Lib.hid (And.intro hG hG63)
    have hnn : n < 4611686018427387904 := by omega
    clear hold hG hG63 hi hz0 hz1 hz2
    go_enter Try.func107, Try.ntmps107
    go_wp2_with (at_builtin; refine Lib.wpList_append_run _ rfl _ _ _ _ rfl _ _ rfl rfl _ _ (hrz _) ?_)
    go_returns
    refine ⟨some ⟨w.heap.size, 0, none⟩, G, rfl, ?_, by (repeat (first | (with_reducible exact SinceOf.refl _) | (with_reducible assumption) | (with_reducible refine SinceOf.alloc ?_ _) | (with_reducible refine SinceOf.drew ?_) | (with_reducible refine SinceOf.drewN ?_ _) | (with_reducible refine SinceOf.later ?_ _) | (with_reducible refine SinceOf.further ?_ _) | (with_reducible refine SinceOf.setCell ?_ (by first | exact Nat.le_refl _ | (simp; done) | omega | (simp; omega)) _)))⟩
    exact ⟨rfl, .inr ⟨w.heap.size, G, cs, rfl, Nat.le_refl _, heap_alloc_new w.drew _, Nat.zero_le _, HG.out.2, HG.out.1, by simp⟩⟩
def catAt (l1 l2 : List (Int × Int)) (k : Nat) : List (Int × Int) := if k = 0 then [] else if k = 1 then l1 else l1 ++ l2
theorem catAt_len (l1 l2 : List (Int × Int)) (k : Nat) : (catAt l1 l2 k).length ≤ l1.length + l2.length := by unfold catAt; split <;> (try split) <;> simp
set_option maxHeartbeats 4000000 in
set_option maxRecDepth 100000 in
theorem concat2_any (A1 A2 : Option Addr) (c1 c2 : Nat) (l1 l2 : List (Int × Int)) (g cp : Nat) (w : World) (h0 : w.cell? ⟨g, 0, none⟩ = some (.slice A1 l1.length c1)) (h1 : w.cell? ⟨g, 1, none⟩ = some (.slice A2 l2.length c2)) (hO : Nonempty (Old w g)) (hl1 : IsVecs w A1 c1 l1) (hl2 : IsVecs w A2 c2 l2) (hn : (l1.length + l2.length) * 16 ≤ 140737488355328) :
    Calls Try.prog 97 #[.slice (some ⟨g, 0, none⟩) 2 cp] w fun e w' => ∃ A' c', e = .returned (.slice A' (l1 ++ l2).length c') ∧ OwnVecs w.heap.size w' A' c' (l1 ++ l2) ∧ SinceOf w w' := by
  have hcell : ∀ k, k < 2 → ∃ (Ak : Option Addr) (lk : List (Int × Int)) (ck : Nat), w.cell? ⟨g, k, none⟩ = some (.slice Ak lk.length ck) ∧ IsVecs w Ak ck lk ∧ catAt l1 l2 (k + 1) = catAt l1 l2 k ++ lk := by
    intro k hk
    by_cases e : k = 0
    · subst e; exact ⟨A1, l1, c1, h0, hl1, by simp [catAt]⟩
    · obtain rfl : k = 1 := by omega
      exact ⟨A2, l2, c2, h1, hl2, by simp [catAt]⟩
  have H := Lib.hid hcell
  have hlen := fun k => catAt_len l1 l2 k
  have HL := Lib.hid hlen
  obtain ⟨i0, hi, hz0, hz1, hz2⟩ := info_parts infoVec
  have HI := Lib.hid (And.intro hi (And.intro hz0 (And.intro hz1 hz2)))
  clear hcell h0 h1 hl1 hl2 hlen hi hz0 hz1 hz2
  go_enter Try.func97, Try.ntmps97
  go_wp2_with fail
  go_loopg [3, 11] 2 (fun gas s3 s11 wr => ∃ k z : Nat, k ≤ 2 ∧ 2 - k ≤ gas ∧ s11 = .int .i64 k ∧ s3 = .int .i64 z ∧ z = (catAt l1 l2 k).length ∧ w = wr)
  case atStart => exact ⟨0, 0, by omega, by omega, rfl, rfl, rfl, rfl⟩
  case round =>
    obtain ⟨k, z, hk, hgas, rfl, rfl, hz, rfl⟩ := hrel
    by_cases hlt : k < 2
    · obtain ⟨Ak, lk, ck, hcell, -, hcat⟩ := H.out k hlt
      have hzl := HL.out (k + 1)
      rw [hcat, List.length_append, ← hz] at hzl
      have HZ := Lib.hid (show z + lk.length = (catAt l1 l2 (k + 1)).length by rw [hcat, List.length_append, hz])
      clear hcat hz
      have hb : z + lk.length < 4611686018427387904 := by omega
      go_wp2_with fail
      go_roundg (2 - (k + 1))
      case measure => omega
      case rel => exact ⟨k + 1, z + lk.length, by omega, Nat.le_refl _, by go_num, by go_num, HZ.out, rfl⟩
    · obtain rfl : k = 2 := by omega
      have hz2 : z = (l1 ++ l2).length := hz
      have hzb : z ≤ l1.length + l2.length := by rw [hz2]; simp
      have HZ := Lib.hid hz2
      clear hz hz2
      go_wp2_with fail
      refine (growV_any z (by omega) _).mono ?_
      rintro e _ ⟨A3, c3, rfl, ho3, ⟨y, rfl⟩⟩
      have HO := Lib.hid ho3
      clear ho3
      go_wp2_with fail
      go_loopg [6, 27] 2 (fun gas s6 s27 wr => ∃ (k : Nat) (A' : Option Addr) (c' : Nat), k ≤ 2 ∧ 2 - k ≤ gas ∧ s27 = .int .i64 k ∧ s6 = .slice A' (catAt l1 l2 k).length c' ∧ OwnVecs w.heap.size wr A' c' (catAt l1 l2 k) ∧ SinceOf w wr)
      case atStart => exact ⟨0, A3, c3, by omega, by omega, rfl, rfl, HO.out, ⟨y, rfl⟩⟩
      case round =>
        obtain ⟨k, A4, c4, hk, hgas, rfl, rfl, hown, ⟨z2, rfl⟩⟩ := hrel
        by_cases hlt : k < 2
        · obtain ⟨Ak, lk, ck, hcell, hvk, hcat⟩ := H.out k hlt
          have hzl := HL.out (k + 1)
          rw [hcat, List.length_append] at hzl
          have hz2s := z2.size
          have HH := Lib.hid (And.intro hown (And.intro hvk hcat))
          generalize catAt l1 l2 k = m at *
          clear hown hvk hcat
          go_wp2_with (at_builtin; refine wpList_append_row rfl (.tmp 31) (.tmp 32) 25 rfl encV_len (by omega) encV_one i0 _ 16 Try.underlying25 HI.out.1 HI.out.2.1 HI.out.2.2.1 HI.out.2.2.2 rfl (l := m) (A := A4) (c := c4) (base := w.heap.size) rfl HH.out.1 (m := lk) rfl (HH.out.2.1.of (by (repeat (first | (with_reducible exact SinceOf.refl _) | (with_reducible assumption) | (with_reducible refine SinceOf.alloc ?_ _) | (with_reducible refine SinceOf.drew ?_) | (with_reducible refine SinceOf.drewN ?_ _) | (with_reducible refine SinceOf.later ?_ _) | (with_reducible refine SinceOf.further ?_ _) | (with_reducible refine SinceOf.setCell ?_ (by first | exact Nat.le_refl _ | (simp; done) | omega | (simp; omega)) _))))) (by unfold maxLen; omega) (by omega) (by omega) ?_; intro A5 c5 w5 hown5 hgr5 hbl5)
          go_roundg (2 - (k + 1))
          case measure => omega
          case rel => exact ⟨k + 1, A5, c5, by omega, Nat.le_refl _, by go_num, by rw [HH.out.2.2, List.length_append], by rw [HH.out.2.2]; exact hown5, SinceOf.grown ⟨z2, rfl⟩ hgr5 (fun b hb => (HH.out.1.below b hb).1)⟩
        · obtain rfl : k = 2 := by omega
          have hown' : OwnVecs w.heap.size z2.wd A4 c4 (l1 ++ l2) := hown
          have HH := Lib.hid hown'
          rw [show catAt l1 l2 2 = l1 ++ l2 from rfl]
          clear hown hown'
          obtain ⟨nn, hnn⟩ : ∃ nn, nn = (l1 ++ l2).length := ⟨_, rfl⟩
          rw [← hnn]
          have HN := Lib.hid hnn
          clear hnn
          go_wp2_with fail
          go_returns
          exact ⟨A4, c4, by rw [← HN.out]; rfl, HH.out, ⟨z2, rfl⟩⟩
theorem lexy_trans {p q r : Pt} (h : lexy p q) (k : lexy q r) : lexy p r := by unfold lexy at *; omega
theorem rot_split (k : Nat) (r : List Pt) : rotL k r = r.drop k ++ r.take k := rfl
set_option maxHeartbeats 4000000 in
set_option maxRecDepth 100000 in
theorem begin_any (g off c : Nat) (r : List (Int × Int)) (w : World) (h : IsVecs w (some ⟨g, off, none⟩) c r) (hn : 0 < r.length) (hlen : r.length * 16 ≤ 140737488355328) (hc : r.length ≤ c) :
    Calls Try.prog 70 #[.slice (some ⟨g, off, none⟩) r.length c] w fun e w' => ∃ A' c' k, e = .returned (.slice A' (rotL k r).length c') ∧ k < r.length ∧ (∀ j, j < r.length → ¬ lexy (at0 r j) (at0 r k)) ∧ OwnVecs w.heap.size w' A' c' (rotL k r) ∧ SinceOf w w' := by
  have H := Lib.hid h
  have hr0 := h.at_ hn
  obtain ⟨g', off', he, hr⟩ := hr0
  injection he with he
  injection he with hg1 ho1
  subst hg1 ho1
  have hO := hr.there
  have HR := Lib.hid hr
  clear h hr
  go_enter Try.func70, Try.ntmps70
  go_wp2_with fail
  go_loopg [3, 8] r.length (fun gas s3 s8 wr => ∃ i b : Nat, i ≤ r.length ∧ r.length - i ≤ gas ∧ s8 = .int .i64 i ∧ s3 = .int .i64 b ∧ b < r.length ∧ (∀ j, j < i → ¬ lexy (at0 r j) (at0 r b)) ∧ LaterOf w wr)
  case atStart => exact ⟨0, 0, by omega, by omega, rfl, rfl, hn, fun j hj => by omega, by (repeat (first | (with_reducible exact LaterOf.refl _) | (with_reducible refine LaterOf.alloc ?_ _) | (with_reducible refine LaterOf.drew ?_) | (with_reducible refine LaterOf.drewN ?_ _) | (with_reducible refine LaterOf.later ?_ _) | (with_reducible refine LaterOf.setCell ?_ (by first | exact Nat.le_refl _ | (simp; done) | omega | (simp; omega)) _)))⟩
  case round =>
    obtain ⟨i, b, hi, hgas, rfl, rfl, hb, hall, ⟨z, rfl⟩⟩ := hrel
    by_cases hlt : i < r.length
    · have a0 := HR.out.v0 i hlt
      have a1 := HR.out.v1 i hlt
      have b0 := HR.out.v0 b hb
      have b1 := HR.out.v1 b hb
      have T := less_any r[i].1 r[i].2 r[b].1 r[b].2
      have hv := vcmp_lexy r[i] r[b]
      have ei := at0_eq hlt
      have eb := at0_eq hb
      have HA := Lib.hid hall
      generalize r[i] = pa at *
      generalize r[b] = pb at *
      have HE := Lib.hid (And.intro ei eb)
      clear ei eb
      obtain ⟨xa, ya⟩ := pa
      obtain ⟨xb, yb⟩ := pb
      simp only at a0 a1 b0 b1 T hv
      clear hall
      by_cases hl : lexy (xa, ya) (xb, yb)
      · rw [decide_eq_true (hv.2 hl)] at T
        have HLx := Lib.hid hl
        clear hv hl
        go_wp2_with fail
        refine region_later (by kernel_rfl) (by kernel_rfl) ?_
        repeat (go_big_quiet_step ((with_reducible refine Gives.later (T _))))
        refine wpQuiet_nil ?_
        rintro _ ⟨z4, rfl⟩
        go_wp2_with fail
        go_roundg (r.length - (i + 1))
        case measure => omega
        case rel =>
          refine ⟨i + 1, i, hlt, Nat.le_refl _, by go_num, rfl, hlt, fun j hj => ?_, by (repeat (first | (with_reducible exact LaterOf.refl _) | (with_reducible refine LaterOf.alloc ?_ _) | (with_reducible refine LaterOf.drew ?_) | (with_reducible refine LaterOf.drewN ?_ _) | (with_reducible refine LaterOf.later ?_ _) | (with_reducible refine LaterOf.setCell ?_ (by first | exact Nat.le_refl _ | (simp; done) | omega | (simp; omega)) _)))⟩
          by_cases e : j = i
          · rw [e]; exact fun h => h.asymm h
          · exact fun h => HA.out j (by omega) (lexy_trans h (by rw [HE.out.1, HE.out.2]; exact HLx.out))
      · rw [decide_eq_false (fun h => hl (hv.1 h))] at T
        have HLx := Lib.hid hl
        clear hv hl
        go_wp2_with fail
        refine region_later (by kernel_rfl) (by kernel_rfl) ?_
        repeat (go_big_quiet_step ((with_reducible refine Gives.later (T _))))
        refine wpQuiet_nil ?_
        rintro _ ⟨z4, rfl⟩
        go_wp2_with fail
        go_roundg (r.length - (i + 1))
        case measure => omega
        case rel =>
          refine ⟨i + 1, b, hlt, Nat.le_refl _, by go_num, rfl, hb, fun j hj => ?_, by (repeat (first | (with_reducible exact LaterOf.refl _) | (with_reducible refine LaterOf.alloc ?_ _) | (with_reducible refine LaterOf.drew ?_) | (with_reducible refine LaterOf.drewN ?_ _) | (with_reducible refine LaterOf.later ?_ _) | (with_reducible refine LaterOf.setCell ?_ (by first | exact Nat.le_refl _ | (simp; done) | omega | (simp; omega)) _)))⟩
          by_cases e : j = i
          · rw [e, HE.out.1, HE.out.2]; exact HLx.out
          · exact HA.out j (by omega)
    · have hil : i = r.length := by omega
      subst hil
      have HA := Lib.hid hall
      clear hall
      have hcb : ¬ c = b := by omega
      have hd : IsVecs w (some ⟨g, off + b * 2, none⟩) (c - b) (r.drop b) := by
        have := H.out.drop hc b
        rw [if_neg hcb] at this
        simp only [Option.map_some, add_none] at this
        exact this
      have ht : IsVecs w (some ⟨g, off, none⟩) c (r.take b) := H.out.take b
      have HD := Lib.hid (And.intro hd ht)
      clear hd ht
      go_wp2_with fail
      have z1 : (0 : Int) ≤ (b : Int) := by omega
      have z2 : (b : Int) ≤ (r.length : Int) := by omega
      have z3 : (b : Int) ≤ (c : Int) := by omega
      have z4 : (r.length : Int) ≤ (c : Int) := by omega
      go_region_held3 (fun w' => True) (trivial)
        ((go_at_call 97; refine (concat2_any (some ⟨g, off + b * 2, none⟩) (some ⟨g, off, none⟩) (c - b) c (r.drop b) (r.take b) z.wd.heap.size 2 _ (by rw [List.length_drop]; simp [go_sem]) (by rw [List.length_take, Nat.min_eq_left (by omega)]; simp [go_sem]) inferInstance (HD.out.1.of (by (repeat (first | (with_reducible exact SinceOf.refl _) | (with_reducible assumption) | (with_reducible refine SinceOf.alloc ?_ _) | (with_reducible refine SinceOf.drew ?_) | (with_reducible refine SinceOf.drewN ?_ _) | (with_reducible refine SinceOf.later ?_ _) | (with_reducible refine SinceOf.further ?_ _) | (with_reducible refine SinceOf.setCell ?_ (by first | exact Nat.le_refl _ | (simp; done) | omega | (simp; omega)) _))))) (HD.out.2.of (by (repeat (first | (with_reducible exact SinceOf.refl _) | (with_reducible assumption) | (with_reducible refine SinceOf.alloc ?_ _) | (with_reducible refine SinceOf.drew ?_) | (with_reducible refine SinceOf.drewN ?_ _) | (with_reducible refine SinceOf.later ?_ _) | (with_reducible refine SinceOf.further ?_ _) | (with_reducible refine SinceOf.setCell ?_ (by first | exact Nat.le_refl _ | (simp; done) | omega | (simp; omega)) _))))) (by rw [List.length_drop, List.length_take]; omega)).mono ?_; rintro e _ ⟨A5, c5, rfl, ho5, ⟨y5, rfl⟩⟩))
      all_goals
        have HO := Lib.hid ho5
        clear ho5
        go_wp2_with fail
        go_returns
        have hz := z.size
        have e0 : r.length - b + min b r.length = r.length := by omega
        exact ⟨A5, c5, b, by rw [rotL_length (by omega)]; first | rfl | (show Ending.returned (.slice A5 (r.length - b + min b r.length) c5) = _; rw [e0]), hb, HA.out, HO.out.base_le (by simp; omega), by (repeat (first | (with_reducible exact SinceOf.refl _) | (with_reducible assumption) | (with_reducible refine SinceOf.alloc ?_ _) | (with_reducible refine SinceOf.drew ?_) | (with_reducible refine SinceOf.drewN ?_ _) | (with_reducible refine SinceOf.later ?_ _) | (with_reducible refine SinceOf.further ?_ _) | (with_reducible refine SinceOf.setCell ?_ (by first | exact Nat.le_refl _ | (simp; done) | omega | (simp; omega)) _)))⟩
end Go.Proofs.Yticmfmcflikneaa
/- Layer 10: the chain that Hull makes of ordered points. -/
namespace Go.Proofs.Yticmfmcflikneaa
open Go.RowKit Go.Sort
set_option linter.unusedVariables false
set_option linter.unusedSimpArgs false
attribute [local go_sem ↓] Go.wp_at_zero Go.wp_at_succ

theorem Owns.takeN {α : Type} {enc : α → List Value} {k base : Nat} {e : TypeId} {w : World} {A : Option Addr} {c : Nat} {l : List α} (hk : ∀ x, (enc x).length = k) (h : Owns enc k base e w A c l) (n : Nat) (hn : n ≤ l.length) (h0 : 0 < l.length) : Owns enc k base e w A c (l.take n) := by
  rcases h.2 with ⟨h', _⟩ | ⟨g', cap, cur, h', hb, hg, hnc, hcm, hcs, htake⟩
  · simp only [Value.slice.injEq] at h'
    omega
  · simp only [Value.slice.injEq, true_and] at h'
    obtain ⟨rfl, rfl⟩ := h'
    have hl : (l.take n).length = n := by rw [List.length_take]; omega
    refine ⟨by rw [flat_length hk], .inr ⟨g', c, cur, by rw [hl], hb, hg, by omega, hcm, hcs, ?_⟩⟩
    rw [hl]
    have h1 : (l.flatMap enc).take (n * k) = (l.take n).flatMap enc := by
      have e1 : l.flatMap enc = (l.take n).flatMap enc ++ (l.drop n).flatMap enc := by rw [← List.flatMap_append, List.take_append_drop]
      rw [e1, List.take_left' (by rw [flat_length hk, hl])]
    rw [← h1, ← htake, List.take_take, Nat.min_eq_left (Nat.mul_le_mul_right _ hn)]
theorem rev_at {s : List Pt} {a b : Pt} {r : List Pt} (hs : s = b :: a :: r) {n : Nat} (hn : n = s.length) (h1 : n - 1 < s.reverse.length) (h2 : n - 2 < s.reverse.length) : s.reverse[n - 1] = b ∧ s.reverse[n - 2] = a := by
  subst hs hn
  simp only [List.getElem_reverse]
  constructor
  · simp
  · simp only [List.length_cons]
    have : r.length + 1 + 1 - 1 - (r.length + 1 + 1 - 2) = 1 := by omega
    simp [this]
theorem popC_short {p : Pt} : ∀ {s : List Pt}, s.length < 2 → popC p s = s
  | [], _ => rfl
  | [_], _ => rfl
  | _ :: _ :: _, h => by simp at h; omega
theorem popC_sub {p : Pt} : ∀ {s : List Pt}, ∀ q ∈ popC p s, q ∈ s
  | [], q, h => h
  | [_], q, h => h
  | b :: a :: r, q, h => by
    unfold popC at h
    split at h
    · exact List.mem_cons_of_mem _ (popC_sub q h)
    · exact h
theorem isRow_atV (W : World) (g : Nat) (x y : Int) (hg : W.heap.size = g) : IsVecs (W.alloc (.cells #[.int .i64 x, .int .i64 y] 32)) (some ⟨g, 0, none⟩) 1 [(x, y)] := by
  subst hg; exact ⟨(by intro h; cases h), .inr ⟨_, 0, rfl, row_one W x y⟩⟩
set_option maxRecDepth 100000 in
set_option maxHeartbeats 8000000 in
theorem chain_any (gp : Nat) (A : Option Addr) (c : Nat) (pts : List (Int × Int)) (w : World) (h0 : w.cell? ⟨gp, 0, none⟩ = some (.slice A pts.length c)) (hO : Nonempty (Old w gp)) (h : IsVecs w A c pts) (hfar : pts.any farB = false) (hn : pts.length ≤ 400) :
    Calls Try.prog 67 #[.pointer (some ⟨gp, 0, none⟩)] w fun e w' => ∃ A' c', e = .returned (.slice A' (lowC pts).length c') ∧ OwnVecs w.heap.size w' A' c' (lowC pts) ∧ SinceOf w w' := by
  have H := Lib.hid (And.intro h (List.any_eq_false.1 hfar))
  obtain ⟨i0, hi, hz0, hz1, hz2⟩ := info_parts infoVec
  have HI := Lib.hid (And.intro hi (And.intro hz0 (And.intro hz1 hz2)))
  clear h hfar hi hz0 hz1 hz2
  go_enter Try.func67, Try.ntmps67
  go_wp2_with fail
  go_loopg [2, 7] pts.length (fun gas s2 s7 wr => ∃ (k n : Nat) (A2 : Option Addr) (c2 : Nat) (s : List Pt), k ≤ pts.length ∧ pts.length - k ≤ gas ∧ s2 = .slice A2 n c2 ∧ s7 = .int .i64 k ∧ n = s.length ∧ n ≤ k ∧ OwnVecs w.heap.size wr A2 c2 s.reverse ∧ chainC [] pts = chainC s (pts.drop k) ∧ (∀ q ∈ s, farB q = false) ∧ SinceOf w wr)
  case atStart => exact ⟨0, 0, none, 0, [], by omega, by omega, rfl, rfl, rfl, by omega, Owns.nil _ _ _ _ _, by rw [List.drop_zero], fun q hq => by (cases hq), SinceOf.refl _⟩
  case round =>
    obtain ⟨k, n, A2, c2, s, hk, hgas, rfl, rfl, hns, hnk, hown, hch, hfs, ⟨z, rfl⟩⟩ := hrel
    have hzs := z.size
    by_cases hlt : k < pts.length
    · have hr0 := H.out.1
      obtain ⟨g, off, hA, hr⟩ := hr0.at_ (by omega)
      subst hA
      have hOg := hr.there
      have p0 := hr.v0 k hlt
      have p1 := hr.v1 k hlt
      have hpf : farB pts[k] = false := by simpa using H.out.2 _ (List.getElem_mem hlt)
      rw [List.drop_eq_getElem_cons hlt] at hch
      have hch2 : chainC [] pts = chainC (pts[k] :: popC pts[k] s) (pts.drop (k + 1)) := hch
      clear hch
      generalize pts[k] = p at *
      obtain ⟨px, py⟩ := p
      simp only at p0 p1
      have HS := Lib.hid (And.intro hns (And.intro hown (And.intro hch2 (And.intro hfs hpf))))
      clear hns hown hch2 hfs hpf hr hr0
      go_wp2_with fail
      go_loopg [2] n (fun gas s2 wr => ∃ (m : Nat) (s' : List Pt), m ≤ n ∧ m ≤ gas ∧ s2 = .slice A2 m c2 ∧ m = s'.length ∧ OwnVecs w.heap.size wr A2 c2 s'.reverse ∧ popC (px, py) s = popC (px, py) s' ∧ (∀ q ∈ s', farB q = false) ∧ SinceOf (z.wd.alloc (.cells #[.int .i64 px, .int .i64 py] 32)) wr)
      case atStart => exact ⟨n, s, Nat.le_refl _, Nat.le_refl _, rfl, HS.out.1, HS.out.2.1.of (by (repeat (first | (with_reducible exact SinceOf.refl _) | (with_reducible assumption) | (with_reducible refine SinceOf.alloc ?_ _) | (with_reducible refine SinceOf.drew ?_) | (with_reducible refine SinceOf.drewN ?_ _) | (with_reducible refine SinceOf.later ?_ _) | (with_reducible refine SinceOf.further ?_ _) | (with_reducible refine SinceOf.setCell ?_ (by first | exact Nat.le_refl _ | (simp; done) | omega | (simp; omega)) _)))), rfl, HS.out.2.2.2.1, by (repeat (first | (with_reducible exact SinceOf.refl _) | (with_reducible assumption) | (with_reducible refine SinceOf.alloc ?_ _) | (with_reducible refine SinceOf.drew ?_) | (with_reducible refine SinceOf.drewN ?_ _) | (with_reducible refine SinceOf.later ?_ _) | (with_reducible refine SinceOf.further ?_ _) | (with_reducible refine SinceOf.setCell ?_ (by first | exact Nat.le_refl _ | (simp; done) | omega | (simp; omega)) _)))⟩
      case round =>
        obtain ⟨m, s', hmn, hgas2, rfl, hms, hown, hpop, hfs', ⟨z2, rfl⟩⟩ := hrel
        have hz2 := z2.size
        simp only [World.size_alloc] at hz2
        by_cases h2 : 2 ≤ m
        · obtain ⟨b, a, r, hs'⟩ : ∃ b a r, s' = b :: a :: r := by
            match s', hms with
            | [], e => simp at e; omega
            | [_], e => simp at e; omega
            | b :: a :: r, _ => exact ⟨b, a, r, rfl⟩
          have hrl : s'.reverse.length = m := by rw [List.length_reverse]; exact hms.symm
          have hcap : m ≤ c2 := by have := hown.le_cap; omega
          obtain ⟨ga, hA2, hga, hlv⟩ := hown.live encV_len (by omega)
          subst hA2
          have hO2 := hlv.row.there
          obtain ⟨e1, e2⟩ := rev_at hs' hms (by omega) (by omega)
          have b0 := hlv.row.v0 (m - 1) (by omega)
          have b1 := hlv.row.v1 (m - 1) (by omega)
          have a0 := hlv.row.v0 (m - 2) (by omega)
          have a1 := hlv.row.v1 (m - 2) (by omega)
          rw [e1] at b0 b1
          rw [e2] at a0 a1
          simp only [Nat.zero_add] at a0 a1 b0 b1
          have T := turn_any a.1 a.2 b.1 b.2 px py
          have ht := turn_det (a := a) (b := b) (c := (px, py)) (hfs' a (by rw [hs']; simp)) (hfs' b (by rw [hs']; simp)) HS.out.2.2.2.2
          simp only at ht
          rw [ht] at T
          have hc := cmpi_le (det a b (px, py))
          generalize hd : det a b (px, py) = dt at *
          obtain ⟨ax, ay⟩ := a
          obtain ⟨bx, by_⟩ := b
          simp only at a0 a1 b0 b1 T
          have w1 : IntKind.i64.wrap ((m : Int) - 1) = (m : Int) - 1 := IntWalk.i64_in _ (by omega)
          have w2 : IntKind.i64.wrap ((m : Int) - 2) = (m : Int) - 2 := IntWalk.i64_in _ (by omega)
          have w3 : ((m : Int) - 1).toNat = m - 1 := by omega
          have w4 : ((m : Int) - 2).toNat = m - 2 := by omega
          have w5 : 0 ≤ (m : Int) - 1 := by omega
          have w6 : 0 ≤ (m : Int) - 2 := by omega
          have w7 : (m : Int) - 1 < m := by omega
          have w8 : (m : Int) - 2 < m := by omega
          have w9 : decide (2 ≤ (m : Int)) = true := decide_eq_true (by omega)
          have w10 : decide (2 ≤ m) = true := decide_eq_true h2
          have HM := Lib.hid (And.intro hms (And.intro hown (And.intro hpop (And.intro hfs' (And.intro hs' (And.intro hd hrl))))))
          clear hms hown hpop hfs' hs' hd hrl e1 e2 hlv ht
          by_cases hle : dt ≤ 0
          · have hcl : decide (cmpi dt 0 ≤ 0) = true := decide_eq_true (hc.2 hle)
            generalize cmpi dt 0 = cd at *
            clear hc
            go_wp2_with fail
            refine region_later (by kernel_rfl) (by kernel_rfl) ?_
            repeat (go_big_quiet_step ((with_reducible refine Gives.later (T _))))
            refine wpQuiet_nil ?_
            rintro _ ⟨z4, rfl⟩
            clear w2 w4 w6 w8 w9 w10
            go_wp2_with fail
            go_roundg (m - 1)
            case measure => omega
            case rel =>
              obtain ⟨q1, q2, q3, q4, q5, q6, q7⟩ := HM.out
              refine ⟨m - 1, (ax, ay) :: r, by omega, Nat.le_refl _, by rfl, by rw [q1, q5]; simp, ?_, ?_, fun q hq => q4 q (by rw [q5]; exact List.mem_cons_of_mem _ hq), by (repeat (first | (with_reducible exact SinceOf.refl _) | (with_reducible assumption) | (with_reducible refine SinceOf.alloc ?_ _) | (with_reducible refine SinceOf.drew ?_) | (with_reducible refine SinceOf.drewN ?_ _) | (with_reducible refine SinceOf.later ?_ _) | (with_reducible refine SinceOf.further ?_ _) | (with_reducible refine SinceOf.setCell ?_ (by first | exact Nat.le_refl _ | (simp; done) | omega | (simp; omega)) _)))⟩
              · have := (q2.of (w' := z4.wd) (by (repeat (first | (with_reducible exact SinceOf.refl _) | (with_reducible assumption) | (with_reducible refine SinceOf.alloc ?_ _) | (with_reducible refine SinceOf.drew ?_) | (with_reducible refine SinceOf.drewN ?_ _) | (with_reducible refine SinceOf.later ?_ _) | (with_reducible refine SinceOf.further ?_ _) | (with_reducible refine SinceOf.setCell ?_ (by first | exact Nat.le_refl _ | (simp; done) | omega | (simp; omega)) _))))).takeN encV_len (m - 1) (by omega) (by omega)
                rw [show ((ax, ay) :: r).reverse = s'.reverse.take (m - 1) from by rw [q5, List.reverse_cons (a := (bx, by_)), List.take_left' (by rw [List.length_reverse]; rw [q5] at q1; simp at q1 ⊢; omega)]]
                exact this
              · rw [q3, q5]
                show popC (px, py) ((bx, by_) :: (ax, ay) :: r) = _
                rw [popC, q6, if_pos hle]
          · have hcl : decide (cmpi dt 0 ≤ 0) = false := decide_eq_false (fun h => hle (hc.1 h))
            generalize cmpi dt 0 = cd at *
            clear hc
            go_wp2_with fail
            refine region_later (by kernel_rfl) (by kernel_rfl) ?_
            repeat (go_big_quiet_step ((with_reducible refine Gives.later (T _))))
            refine wpQuiet_nil ?_
            rintro _ ⟨z4, rfl⟩
            clear w1 w2 w3 w4 w5 w6 w7 w8 w9 w10
            have HP := Lib.hid (And.intro (show popC (px, py) s = s' by rw [HM.out.2.2.1, HM.out.2.2.2.2.1, popC, HM.out.2.2.2.2.2.1, if_neg (by omega)]) (And.intro HM.out.2.2.2.2.2.2 HM.out.2.1))
            have HF := Lib.hid HM.out.2.2.2.1
            have hz4 := z4.size
            go_wp2_with (at_builtin; refine wpList_append_row rfl (.tmp 36) (.tmp 38) 22 rfl encV_len (by omega) encV_one i0 _ 16 Try.underlying22 HI.out.1 HI.out.2.1 HI.out.2.2.1 HI.out.2.2.2 rfl (l := s'.reverse) (A := some ⟨ga, 0, none⟩) (c := c2) (base := w.heap.size) (by rw [HP.out.2.1]; rfl) (HP.out.2.2.of (by (repeat (first | (with_reducible exact SinceOf.refl _) | (with_reducible assumption) | (with_reducible refine SinceOf.alloc ?_ _) | (with_reducible refine SinceOf.drew ?_) | (with_reducible refine SinceOf.drewN ?_ _) | (with_reducible refine SinceOf.later ?_ _) | (with_reducible refine SinceOf.further ?_ _) | (with_reducible refine SinceOf.setCell ?_ (by first | exact Nat.le_refl _ | (simp; done) | omega | (simp; omega)) _))))) (m := [(px, py)]) rfl (isRow_atV _ _ px py (by first | rfl | simp)) (by rw [HP.out.2.1]; unfold maxLen; simp; omega) (by rw [HP.out.2.1]; simp; omega) (by simp; omega) ?_; intro A5 c5 w5 ho5 hgr5 hbl5)
            go_roundg (pts.length - (k + 1))
            case measure => omega
            case rel =>
              refine ⟨k + 1, s'.length + 1, A5, c5, (px, py) :: s', hlt, Nat.le_refl _, rfl, by go_num, by simp, by have := HP.out.2.1; rw [List.length_reverse] at this; omega, by rw [List.reverse_cons]; exact ho5, by rw [HS.out.2.2.1, HP.out.1], fun q hq => ?_, ?_⟩
              · rcases List.mem_cons.1 hq with rfl | hq
                · exact HS.out.2.2.2.2
                · exact HF.out q hq
              · exact SinceOf.grown (by (repeat (first | (with_reducible exact SinceOf.refl _) | (with_reducible assumption) | (with_reducible refine SinceOf.alloc ?_ _) | (with_reducible refine SinceOf.drew ?_) | (with_reducible refine SinceOf.drewN ?_ _) | (with_reducible refine SinceOf.later ?_ _) | (with_reducible refine SinceOf.further ?_ _) | (with_reducible refine SinceOf.setCell ?_ (by first | exact Nat.le_refl _ | (simp; done) | omega | (simp; omega)) _)))) hgr5 (fun b hb => (HP.out.2.2.below b hb).1)
        · have w9 : decide (2 ≤ (m : Int)) = false := decide_eq_false (by omega)
          have w10 : decide (2 ≤ m) = false := decide_eq_false h2
          have hps : popC (px, py) s' = s' := popC_short (by omega)
          have HP := Lib.hid (And.intro (hpop.trans hps) (And.intro (show s'.reverse.length = m by rw [List.length_reverse]; exact hms.symm) hown))
          have HF := Lib.hid hfs'
          clear hpop hps hms hown hfs'
          go_wp2_with fail
          refine region_later (by kernel_rfl) (by kernel_rfl) ?_
          repeat (go_big_quiet_step (fail))
          refine wpQuiet_nil ?_
          rintro _ ⟨z4, rfl⟩
          clear w9 w10
          have hz4 := z4.size
          go_wp2_with (at_builtin; refine wpList_append_row rfl (.tmp 36) (.tmp 38) 22 rfl encV_len (by omega) encV_one i0 _ 16 Try.underlying22 HI.out.1 HI.out.2.1 HI.out.2.2.1 HI.out.2.2.2 rfl (l := s'.reverse) (A := A2) (c := c2) (base := w.heap.size) (by rw [HP.out.2.1]; rfl) (HP.out.2.2.of (by (repeat (first | (with_reducible exact SinceOf.refl _) | (with_reducible assumption) | (with_reducible refine SinceOf.alloc ?_ _) | (with_reducible refine SinceOf.drew ?_) | (with_reducible refine SinceOf.drewN ?_ _) | (with_reducible refine SinceOf.later ?_ _) | (with_reducible refine SinceOf.further ?_ _) | (with_reducible refine SinceOf.setCell ?_ (by first | exact Nat.le_refl _ | (simp; done) | omega | (simp; omega)) _))))) (m := [(px, py)]) rfl (isRow_atV _ _ px py (by first | rfl | simp)) (by rw [HP.out.2.1]; unfold maxLen; simp; omega) (by rw [HP.out.2.1]; simp; omega) (by simp; omega) ?_; intro A5 c5 w5 ho5 hgr5 hbl5)
          go_roundg (pts.length - (k + 1))
          case measure => omega
          case rel =>
            refine ⟨k + 1, s'.length + 1, A5, c5, (px, py) :: s', hlt, Nat.le_refl _, rfl, by go_num, by simp, by have := HP.out.2.1; rw [List.length_reverse] at this; omega, by rw [List.reverse_cons]; exact ho5, by rw [HS.out.2.2.1, HP.out.1], fun q hq => ?_, ?_⟩
            · rcases List.mem_cons.1 hq with rfl | hq
              · exact HS.out.2.2.2.2
              · exact HF.out q hq
            · exact SinceOf.grown (by (repeat (first | (with_reducible exact SinceOf.refl _) | (with_reducible assumption) | (with_reducible refine SinceOf.alloc ?_ _) | (with_reducible refine SinceOf.drew ?_) | (with_reducible refine SinceOf.drewN ?_ _) | (with_reducible refine SinceOf.later ?_ _) | (with_reducible refine SinceOf.further ?_ _) | (with_reducible refine SinceOf.setCell ?_ (by first | exact Nat.le_refl _ | (simp; done) | omega | (simp; omega)) _)))) hgr5 (fun b hb => (HP.out.2.2.below b hb).1)
    · have hkl : k = pts.length := by omega
      subst hkl
      rw [List.drop_length] at hch
      have hl : lowC pts = s.reverse := by unfold lowC; rw [hch]; rfl
      have HS := Lib.hid (And.intro hown (And.intro hl (show (lowC pts).length = n by rw [hl, List.length_reverse]; exact hns.symm)))
      clear hown hl hch hns hfs
      go_wp2_with fail
      go_returns
      exact ⟨A2, c2, by rw [HS.out.2.2]; rfl, by rw [HS.out.2.1]; exact HS.out.1, ⟨z, rfl⟩⟩
end Go.Proofs.Yticmfmcflikneaa
