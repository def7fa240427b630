/- Layer 46: Gaps of the program: its parts. -/
import Derived.Test.YtkpnffokjpgalaaGreatKJntQ4
import Derived.Test.YtkpnffokjpgalaaGreatKJnt26
namespace Go.Proofs.YtkpnffokjpgalaaGreat
set_option linter.unusedVariables false
set_option linter.unusedSimpArgs false
open Go.RowKit Go.Sort
attribute [local go_sem ↓] Go.wp_at_zero Go.wp_at_succ

theorem infoIntQ : (Tryz.prog.info? 3).map (fun i => (i.zero, i.size, i.bytes)) = some (some (.int .i64 0), 1, 8) := by kernel_rfl
abbrev OwnQ (base : Nat) (w : World) (A : Option Addr) (c : Nat) (l : List Pt) : Prop := Owns encQ 1 base 3 w A c l
theorem isRow_atQ (W : World) (g : Nat) (x : Int) (hg : W.heap.size = g) : IsRow encQ 1 (W.alloc (.cells #[.int .i64 x] 3)) (some ⟨g, 0, none⟩) 1 [(x, 0)] := by
  subst hg
  have h : OwnQ W.heap.size (W.alloc (.cells #[.int .i64 x] 3)) (some ⟨W.heap.size, 0, none⟩) 1 [(x, 0)] := World.ownsRow_lit W _ 1 (Nat.le_refl _) (by decide) rfl
  exact h.isRow encQ_len
/-- The indices of the first edges that have three steps. -/
def longP (S : List SegP) (i : Nat) : List Pt := ((List.range i).filter fun k : Nat => decide (3 ≤ keyQ S k)).map fun k : Nat => ((k : Int), (0 : Int))
theorem longP_succ (S : List SegP) (i : Nat) : longP S (i + 1) = longP S i ++ (if 3 ≤ keyQ S i then [((i : Int), (0 : Int))] else []) := by
  unfold longP
  rw [List.range_succ, List.filter_append, List.map_append]
  congr 1
  by_cases h : 3 ≤ keyQ S i <;> simp [h]
theorem longP_len (S : List SegP) (i : Nat) : (longP S i).length ≤ i := by
  unfold longP
  rw [List.length_map]
  exact Nat.le_trans (List.length_filter_le _ _) (by simp)
theorem longP_I (S : List SegP) (i : Nat) : onI (longP S i) = longI (keyQ S) i := by
  unfold onI longP longI idxs
  rw [List.map_map, List.filter_map]
  simp [Function.comp_def]
theorem onI_at {l : List Pt} {i : Nat} (h : i < l.length) : (at0 l i).1 = (onI l)[i]'(by simp [onI]; exact h) := by
  rw [at0_eq h]; simp [onI]
theorem longP_asc (S : List SegP) (i : Nat) : Asc (longP S i) := by
  intro a b hab hb
  rw [onI_at (by omega), onI_at hb]
  have h := longI_asc (keyQ S) i
  have e : onI (longP S i) = longI (keyQ S) i := longP_I S i
  have h2 : (onI (longP S i)).Pairwise (· < ·) := by rw [e]; exact h
  exact List.pairwise_iff_getElem.1 h2 a b (by simp [onI]; omega) (by simp [onI]; exact hb) hab
theorem longP_in (S : List SegP) : ∀ x ∈ longP S S.length, InR S.length x := by
  intro x hx
  have : x.1 ∈ onI (longP S S.length) := List.mem_map_of_mem hx
  rw [longP_I, longI_mem] at this
  exact this.1
theorem onI_len (l : List Pt) : (onI l).length = l.length := by simp [onI]
/-- What the stable sort leaves. -/
theorem sorted_facts {S : List SegP} {l' : List Pt} (hr : Re (longP S S.length) l' 0 (longP S S.length).length) (hs : Sd (ltT (keyQ S)) l' 0 (longP S S.length).length) :
    (onI l').Perm (longI (keyQ S) S.length) ∧ (onI l').Pairwise fun x y => ltI (keyQ S) y x = false := by
  refine ⟨by rw [← longP_I]; exact hr.perm.map Prod.fst, ?_⟩
  rw [List.pairwise_iff_getElem]
  intro i j hi hj hij
  rw [onI_len] at hi hj
  have := hs i j (Nat.zero_le _) hij (by rw [← hr.len]; exact hj)
  rw [ltT_I, onI_at hi, onI_at hj] at this
  exact this
set_option maxRecDepth 100000 in
theorem insertNil_any (p : Option Addr) (c : Nat) (fv : Value) (w : World) : Calls Tryz.prog 102 #[.slice p 0 c, .int .i64 0, .int .i64 0, fv] w fun e w' => e = .returned (.tuple #[]) ∧ w = w' := by
  go_enter Tryz.func102, Tryz.ntmps102
  go_wp2_with fail
  go_rounds 1
  go_end0
  exact ⟨rfl, rfl⟩
set_option maxRecDepth 100000 in
theorem stableNil_any (p : Option Addr) (c : Nat) (fv : Value) (w : World) : Calls Tryz.prog 35 #[.slice p 0 c, fv] w fun e w' => e = .returned (.tuple #[]) ∧ w = w' := by
  have h : Calls Tryz.prog 80 #[.slice p 0 c, .int .i64 0, fv] w fun e w' => e = .returned (.tuple #[]) ∧ w = w' := by
    have I := insertNil_any p c fv
    go_enter Tryz.func80, Tryz.ntmps80
    go_wp2_with fail
    go_loopg [7, 8] 0 (fun gas s7 s8 wr => s7 = .int .i64 0 ∧ s8 = .int .i64 20 ∧ wr = w)
    case atStart => exact ⟨rfl, rfl, rfl⟩
    case round =>
      obtain ⟨rfl, rfl, rfl⟩ := hrel
      go_wp2_with fail
      go_at_call 102
      refine (I _).mono ?_
      rintro e w' ⟨rfl, rfl⟩
      go_wp2_with fail
      go_loopg [6] 0 (fun gas s6 w2 => s6 = .int .i64 20 ∧ w2 = wr)
      case atStart => exact ⟨rfl, rfl⟩
      case round =>
        obtain ⟨rfl, rfl⟩ := hrel
        go_wp2_with fail
        go_end0
        exact ⟨rfl, rfl⟩
  go_enter Tryz.func35, Tryz.ntmps35
  go_wp2_with fail
  go_at_call 80
  refine h.mono ?_
  rintro e _ ⟨rfl, rfl⟩
  go_wp2_with fail
  go_end0
  exact ⟨rfl, rfl⟩
end Go.Proofs.YtkpnffokjpgalaaGreat
