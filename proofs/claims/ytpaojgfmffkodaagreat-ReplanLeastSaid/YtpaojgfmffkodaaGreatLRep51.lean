/- Layer 54: the example of the document holds: awake. (The memory's chains were printed by a program, gen51.py.) -/
import Derived.Test.YtpaojgfmffkodaaGreatLRep18
import Derived.Test.YtpaojgfmffkodaaGreatLRep11
import Derived.Test.YtpaojgfmffkodaaGreatLRepP13
namespace Go.Proofs.YtpaojgfmffkodaaGreat
set_option linter.unusedVariables false
set_option linter.unusedSimpArgs false
open Go.RowKit Go.Sort
attribute [local go_sem ↓] Go.wp_at_zero Go.wp_at_succ
def exS54 (a b c d : Option Addr) : ShopR := ⟨a, 1, [⟨10, b, 1, [(0, 10)], none, 0, []⟩], c, 1, [⟨d, 1, [0]⟩], 2⟩
def exL54 (a b : Option Addr) : List JobR := [⟨a, 1, [0], 5, 0, 0, 9, 0⟩, ⟨b, 1, [0], 5, 0, 0, 9, 1⟩]
theorem ex54_A (a b c d e f : Option Addr) : applyV (exS54 a b c d) (exL54 e f) awP 6 awE = (0, ⟨awS2, awL, [⟨0, 0, 0, 5⟩, ⟨1, 0, 5, 11⟩], [], [false, false]⟩) := by
  rw [applyV_er]; exact aw_A
theorem ex54_B (a b c d e f : Option Addr) : applyV (exS54 a b c d) (exL54 e f) awP 3 awE = (0, awB) := by
  rw [applyV_er]; exact aw_B
set_option maxRecDepth 100000 in
theorem ex54_shop (w : World) : IsShop ((((((((((w.alloc (.cells #[.int .i64 0, .int .i64 10] 80)).alloc (.cells #[.int .i64 10, .slice (some ⟨w.heap.size, 0, none⟩) 1 1, .slice none 0 0] 83)).alloc (.cells #[.int .i64 0] 3)).alloc (.cells #[.slice (some ⟨w.heap.size + 1 + 1, 0, none⟩) 1 1] 57)).alloc (.cells #[.slice (some ⟨w.heap.size + 1, 0, none⟩) 1 1, .slice (some ⟨w.heap.size + 1 + 1 + 1, 0, none⟩) 1 1, .int .i64 2] 37)).alloc (.cells #[.int .i64 0] 3)).alloc (.cells #[.int .i64 0] 3)).alloc (.cells #[.slice (some ⟨w.heap.size + 1 + 1 + 1 + 1 + 1, 0, none⟩) 1 1, .int .i64 5, .int .i64 0, .int .i64 0, .int .i64 9, .int .i64 0, .slice (some ⟨w.heap.size + 1 + 1 + 1 + 1 + 1 + 1, 0, none⟩) 1 1, .int .i64 5, .int .i64 0, .int .i64 0, .int .i64 9, .int .i64 1] 85)).alloc (.cells #[.int .i64 0, .int .i64 0, .int .i64 0, .int .i64 5, .int .i64 1, .int .i64 0, .int .i64 5, .int .i64 10] 76)).alloc (.cells #[.int .i64 1, .int .i64 0, .int .i64 8, .int .i64 9, .int .i64 0] 86)) (exS54 (some ⟨w.heap.size + 1, 0, none⟩) (some ⟨w.heap.size, 0, none⟩) (some ⟨w.heap.size + 1 + 1 + 1, 0, none⟩) (some ⟨w.heap.size + 1 + 1, 0, none⟩)) := by
  refine ⟨⟨?_, ?_, by show 1 < 4611686018427387904; decide⟩, ⟨?_, ?_, by show 1 < 4611686018427387904; decide⟩⟩
  · exact (row_since (show IsRow encC 3 ((w.alloc (.cells #[.int .i64 0, .int .i64 10] 80)).alloc (.cells #[.int .i64 10, .slice (some ⟨w.heap.size, 0, none⟩) 1 1, .slice none 0 0] 83)) (some ⟨w.heap.size + 1, 0, none⟩) 1 [(⟨10, (some ⟨w.heap.size, 0, none⟩), 1, [(0, 10)], none, 0, []⟩ : CalR)] from isRow_lit encC_len (w.alloc (.cells #[.int .i64 0, .int .i64 10] 80)) _ _ _ 1 _ rfl rfl (by simp) (by simp)) Sx)
  · intro x hx
    rw [List.mem_singleton.1 hx]
    exact ⟨rfl, rfl, (row_since (show IsRow encV 2 (w.alloc (.cells #[.int .i64 0, .int .i64 10] 80)) (some ⟨w.heap.size, 0, none⟩) 1 [((0 : Int), (10 : Int))] from isRow_lit encV_len w _ _ _ 1 _ rfl rfl (by simp) rfl) Sx), IsRow.nil _ _ _, by show 1 < 4611686018427387904; decide, by show 0 < 4611686018427387904; decide⟩
  · exact (row_since (show IsRow encR 1 ((((w.alloc (.cells #[.int .i64 0, .int .i64 10] 80)).alloc (.cells #[.int .i64 10, .slice (some ⟨w.heap.size, 0, none⟩) 1 1, .slice none 0 0] 83)).alloc (.cells #[.int .i64 0] 3)).alloc (.cells #[.slice (some ⟨w.heap.size + 1 + 1, 0, none⟩) 1 1] 57)) (some ⟨w.heap.size + 1 + 1 + 1, 0, none⟩) 1 [(⟨(some ⟨w.heap.size + 1 + 1, 0, none⟩), 1, [0]⟩ : RowR)] from isRow_lit encR_len (((w.alloc (.cells #[.int .i64 0, .int .i64 10] 80)).alloc (.cells #[.int .i64 10, .slice (some ⟨w.heap.size, 0, none⟩) 1 1, .slice none 0 0] 83)).alloc (.cells #[.int .i64 0] 3)) _ _ _ 1 _ rfl rfl (by simp) (by simp)) Sx)
  · intro x hx
    rw [List.mem_singleton.1 hx]
    exact ⟨(row_since (show IsRow encN 1 (((w.alloc (.cells #[.int .i64 0, .int .i64 10] 80)).alloc (.cells #[.int .i64 10, .slice (some ⟨w.heap.size, 0, none⟩) 1 1, .slice none 0 0] 83)).alloc (.cells #[.int .i64 0] 3)) (some ⟨w.heap.size + 1 + 1, 0, none⟩) 1 [(0 : Int)] from isRow_lit encN_len ((w.alloc (.cells #[.int .i64 0, .int .i64 10] 80)).alloc (.cells #[.int .i64 10, .slice (some ⟨w.heap.size, 0, none⟩) 1 1, .slice none 0 0] 83)) _ _ _ 1 _ rfl rfl (by simp) (by simp)) Sx), by show 1 < 4611686018427387904; decide⟩
set_option maxRecDepth 100000 in
theorem ex54_jobs (w : World) : IsJobs ((((((((((w.alloc (.cells #[.int .i64 0, .int .i64 10] 80)).alloc (.cells #[.int .i64 10, .slice (some ⟨w.heap.size, 0, none⟩) 1 1, .slice none 0 0] 83)).alloc (.cells #[.int .i64 0] 3)).alloc (.cells #[.slice (some ⟨w.heap.size + 1 + 1, 0, none⟩) 1 1] 57)).alloc (.cells #[.slice (some ⟨w.heap.size + 1, 0, none⟩) 1 1, .slice (some ⟨w.heap.size + 1 + 1 + 1, 0, none⟩) 1 1, .int .i64 2] 37)).alloc (.cells #[.int .i64 0] 3)).alloc (.cells #[.int .i64 0] 3)).alloc (.cells #[.slice (some ⟨w.heap.size + 1 + 1 + 1 + 1 + 1, 0, none⟩) 1 1, .int .i64 5, .int .i64 0, .int .i64 0, .int .i64 9, .int .i64 0, .slice (some ⟨w.heap.size + 1 + 1 + 1 + 1 + 1 + 1, 0, none⟩) 1 1, .int .i64 5, .int .i64 0, .int .i64 0, .int .i64 9, .int .i64 1] 85)).alloc (.cells #[.int .i64 0, .int .i64 0, .int .i64 0, .int .i64 5, .int .i64 1, .int .i64 0, .int .i64 5, .int .i64 10] 76)).alloc (.cells #[.int .i64 1, .int .i64 0, .int .i64 8, .int .i64 9, .int .i64 0] 86)) (some ⟨w.heap.size + 1 + 1 + 1 + 1 + 1 + 1 + 1, 0, none⟩) 2 (exL54 (some ⟨w.heap.size + 1 + 1 + 1 + 1 + 1, 0, none⟩) (some ⟨w.heap.size + 1 + 1 + 1 + 1 + 1 + 1, 0, none⟩)) := by
  refine ⟨?_, ?_, by show 2 < 4611686018427387904; decide⟩
  · exact (row_since (show IsRow encJ 6 ((((((((w.alloc (.cells #[.int .i64 0, .int .i64 10] 80)).alloc (.cells #[.int .i64 10, .slice (some ⟨w.heap.size, 0, none⟩) 1 1, .slice none 0 0] 83)).alloc (.cells #[.int .i64 0] 3)).alloc (.cells #[.slice (some ⟨w.heap.size + 1 + 1, 0, none⟩) 1 1] 57)).alloc (.cells #[.slice (some ⟨w.heap.size + 1, 0, none⟩) 1 1, .slice (some ⟨w.heap.size + 1 + 1 + 1, 0, none⟩) 1 1, .int .i64 2] 37)).alloc (.cells #[.int .i64 0] 3)).alloc (.cells #[.int .i64 0] 3)).alloc (.cells #[.slice (some ⟨w.heap.size + 1 + 1 + 1 + 1 + 1, 0, none⟩) 1 1, .int .i64 5, .int .i64 0, .int .i64 0, .int .i64 9, .int .i64 0, .slice (some ⟨w.heap.size + 1 + 1 + 1 + 1 + 1 + 1, 0, none⟩) 1 1, .int .i64 5, .int .i64 0, .int .i64 0, .int .i64 9, .int .i64 1] 85)) (some ⟨w.heap.size + 1 + 1 + 1 + 1 + 1 + 1 + 1, 0, none⟩) 2 (exL54 (some ⟨w.heap.size + 1 + 1 + 1 + 1 + 1, 0, none⟩) (some ⟨w.heap.size + 1 + 1 + 1 + 1 + 1 + 1, 0, none⟩)) from isRow_lit encJ_len (((((((w.alloc (.cells #[.int .i64 0, .int .i64 10] 80)).alloc (.cells #[.int .i64 10, .slice (some ⟨w.heap.size, 0, none⟩) 1 1, .slice none 0 0] 83)).alloc (.cells #[.int .i64 0] 3)).alloc (.cells #[.slice (some ⟨w.heap.size + 1 + 1, 0, none⟩) 1 1] 57)).alloc (.cells #[.slice (some ⟨w.heap.size + 1, 0, none⟩) 1 1, .slice (some ⟨w.heap.size + 1 + 1 + 1, 0, none⟩) 1 1, .int .i64 2] 37)).alloc (.cells #[.int .i64 0] 3)).alloc (.cells #[.int .i64 0] 3)) _ _ _ 2 _ rfl rfl (by show 2 ≤ 1000; decide) (by simp)) Sx)
  · intro x hx
    rcases List.mem_cons.1 hx with rfl | hx
    · exact ⟨(row_since (show IsRow encN 1 ((((((w.alloc (.cells #[.int .i64 0, .int .i64 10] 80)).alloc (.cells #[.int .i64 10, .slice (some ⟨w.heap.size, 0, none⟩) 1 1, .slice none 0 0] 83)).alloc (.cells #[.int .i64 0] 3)).alloc (.cells #[.slice (some ⟨w.heap.size + 1 + 1, 0, none⟩) 1 1] 57)).alloc (.cells #[.slice (some ⟨w.heap.size + 1, 0, none⟩) 1 1, .slice (some ⟨w.heap.size + 1 + 1 + 1, 0, none⟩) 1 1, .int .i64 2] 37)).alloc (.cells #[.int .i64 0] 3)) (some ⟨w.heap.size + 1 + 1 + 1 + 1 + 1, 0, none⟩) 1 [(0 : Int)] from isRow_lit encN_len (((((w.alloc (.cells #[.int .i64 0, .int .i64 10] 80)).alloc (.cells #[.int .i64 10, .slice (some ⟨w.heap.size, 0, none⟩) 1 1, .slice none 0 0] 83)).alloc (.cells #[.int .i64 0] 3)).alloc (.cells #[.slice (some ⟨w.heap.size + 1 + 1, 0, none⟩) 1 1] 57)).alloc (.cells #[.slice (some ⟨w.heap.size + 1, 0, none⟩) 1 1, .slice (some ⟨w.heap.size + 1 + 1 + 1, 0, none⟩) 1 1, .int .i64 2] 37)) _ _ _ 1 _ rfl rfl (by simp) (by simp)) Sx), by show 1 < 4611686018427387904; decide⟩
    · rw [List.mem_singleton.1 hx]
      exact ⟨(row_since (show IsRow encN 1 (((((((w.alloc (.cells #[.int .i64 0, .int .i64 10] 80)).alloc (.cells #[.int .i64 10, .slice (some ⟨w.heap.size, 0, none⟩) 1 1, .slice none 0 0] 83)).alloc (.cells #[.int .i64 0] 3)).alloc (.cells #[.slice (some ⟨w.heap.size + 1 + 1, 0, none⟩) 1 1] 57)).alloc (.cells #[.slice (some ⟨w.heap.size + 1, 0, none⟩) 1 1, .slice (some ⟨w.heap.size + 1 + 1 + 1, 0, none⟩) 1 1, .int .i64 2] 37)).alloc (.cells #[.int .i64 0] 3)).alloc (.cells #[.int .i64 0] 3)) (some ⟨w.heap.size + 1 + 1 + 1 + 1 + 1 + 1, 0, none⟩) 1 [(0 : Int)] from isRow_lit encN_len ((((((w.alloc (.cells #[.int .i64 0, .int .i64 10] 80)).alloc (.cells #[.int .i64 10, .slice (some ⟨w.heap.size, 0, none⟩) 1 1, .slice none 0 0] 83)).alloc (.cells #[.int .i64 0] 3)).alloc (.cells #[.slice (some ⟨w.heap.size + 1 + 1, 0, none⟩) 1 1] 57)).alloc (.cells #[.slice (some ⟨w.heap.size + 1, 0, none⟩) 1 1, .slice (some ⟨w.heap.size + 1 + 1 + 1, 0, none⟩) 1 1, .int .i64 2] 37)).alloc (.cells #[.int .i64 0] 3)) _ _ _ 1 _ rfl rfl (by simp) (by simp)) Sx), by show 1 < 4611686018427387904; decide⟩
theorem ex54_plan (w : World) : IsSlots ((((((((((w.alloc (.cells #[.int .i64 0, .int .i64 10] 80)).alloc (.cells #[.int .i64 10, .slice (some ⟨w.heap.size, 0, none⟩) 1 1, .slice none 0 0] 83)).alloc (.cells #[.int .i64 0] 3)).alloc (.cells #[.slice (some ⟨w.heap.size + 1 + 1, 0, none⟩) 1 1] 57)).alloc (.cells #[.slice (some ⟨w.heap.size + 1, 0, none⟩) 1 1, .slice (some ⟨w.heap.size + 1 + 1 + 1, 0, none⟩) 1 1, .int .i64 2] 37)).alloc (.cells #[.int .i64 0] 3)).alloc (.cells #[.int .i64 0] 3)).alloc (.cells #[.slice (some ⟨w.heap.size + 1 + 1 + 1 + 1 + 1, 0, none⟩) 1 1, .int .i64 5, .int .i64 0, .int .i64 0, .int .i64 9, .int .i64 0, .slice (some ⟨w.heap.size + 1 + 1 + 1 + 1 + 1 + 1, 0, none⟩) 1 1, .int .i64 5, .int .i64 0, .int .i64 0, .int .i64 9, .int .i64 1] 85)).alloc (.cells #[.int .i64 0, .int .i64 0, .int .i64 0, .int .i64 5, .int .i64 1, .int .i64 0, .int .i64 5, .int .i64 10] 76)).alloc (.cells #[.int .i64 1, .int .i64 0, .int .i64 8, .int .i64 9, .int .i64 0] 86)) (some ⟨w.heap.size + 1 + 1 + 1 + 1 + 1 + 1 + 1 + 1, 0, none⟩) 2 awP := (row_since (show IsRow encS 4 (((((((((w.alloc (.cells #[.int .i64 0, .int .i64 10] 80)).alloc (.cells #[.int .i64 10, .slice (some ⟨w.heap.size, 0, none⟩) 1 1, .slice none 0 0] 83)).alloc (.cells #[.int .i64 0] 3)).alloc (.cells #[.slice (some ⟨w.heap.size + 1 + 1, 0, none⟩) 1 1] 57)).alloc (.cells #[.slice (some ⟨w.heap.size + 1, 0, none⟩) 1 1, .slice (some ⟨w.heap.size + 1 + 1 + 1, 0, none⟩) 1 1, .int .i64 2] 37)).alloc (.cells #[.int .i64 0] 3)).alloc (.cells #[.int .i64 0] 3)).alloc (.cells #[.slice (some ⟨w.heap.size + 1 + 1 + 1 + 1 + 1, 0, none⟩) 1 1, .int .i64 5, .int .i64 0, .int .i64 0, .int .i64 9, .int .i64 0, .slice (some ⟨w.heap.size + 1 + 1 + 1 + 1 + 1 + 1, 0, none⟩) 1 1, .int .i64 5, .int .i64 0, .int .i64 0, .int .i64 9, .int .i64 1] 85)).alloc (.cells #[.int .i64 0, .int .i64 0, .int .i64 0, .int .i64 5, .int .i64 1, .int .i64 0, .int .i64 5, .int .i64 10] 76)) (some ⟨w.heap.size + 1 + 1 + 1 + 1 + 1 + 1 + 1 + 1, 0, none⟩) 2 awP from isRow_lit encS_len ((((((((w.alloc (.cells #[.int .i64 0, .int .i64 10] 80)).alloc (.cells #[.int .i64 10, .slice (some ⟨w.heap.size, 0, none⟩) 1 1, .slice none 0 0] 83)).alloc (.cells #[.int .i64 0] 3)).alloc (.cells #[.slice (some ⟨w.heap.size + 1 + 1, 0, none⟩) 1 1] 57)).alloc (.cells #[.slice (some ⟨w.heap.size + 1, 0, none⟩) 1 1, .slice (some ⟨w.heap.size + 1 + 1 + 1, 0, none⟩) 1 1, .int .i64 2] 37)).alloc (.cells #[.int .i64 0] 3)).alloc (.cells #[.int .i64 0] 3)).alloc (.cells #[.slice (some ⟨w.heap.size + 1 + 1 + 1 + 1 + 1, 0, none⟩) 1 1, .int .i64 5, .int .i64 0, .int .i64 0, .int .i64 9, .int .i64 0, .slice (some ⟨w.heap.size + 1 + 1 + 1 + 1 + 1 + 1, 0, none⟩) 1 1, .int .i64 5, .int .i64 0, .int .i64 0, .int .i64 9, .int .i64 1] 85)) _ _ _ 2 _ rfl rfl (by show 2 ≤ 1000; decide) (by simp)) Sx)
theorem ex54_evs (w : World) : IsEvs ((((((((((w.alloc (.cells #[.int .i64 0, .int .i64 10] 80)).alloc (.cells #[.int .i64 10, .slice (some ⟨w.heap.size, 0, none⟩) 1 1, .slice none 0 0] 83)).alloc (.cells #[.int .i64 0] 3)).alloc (.cells #[.slice (some ⟨w.heap.size + 1 + 1, 0, none⟩) 1 1] 57)).alloc (.cells #[.slice (some ⟨w.heap.size + 1, 0, none⟩) 1 1, .slice (some ⟨w.heap.size + 1 + 1 + 1, 0, none⟩) 1 1, .int .i64 2] 37)).alloc (.cells #[.int .i64 0] 3)).alloc (.cells #[.int .i64 0] 3)).alloc (.cells #[.slice (some ⟨w.heap.size + 1 + 1 + 1 + 1 + 1, 0, none⟩) 1 1, .int .i64 5, .int .i64 0, .int .i64 0, .int .i64 9, .int .i64 0, .slice (some ⟨w.heap.size + 1 + 1 + 1 + 1 + 1 + 1, 0, none⟩) 1 1, .int .i64 5, .int .i64 0, .int .i64 0, .int .i64 9, .int .i64 1] 85)).alloc (.cells #[.int .i64 0, .int .i64 0, .int .i64 0, .int .i64 5, .int .i64 1, .int .i64 0, .int .i64 5, .int .i64 10] 76)).alloc (.cells #[.int .i64 1, .int .i64 0, .int .i64 8, .int .i64 9, .int .i64 0] 86)) (some ⟨w.heap.size + 1 + 1 + 1 + 1 + 1 + 1 + 1 + 1 + 1, 0, none⟩) 1 awE := (row_since (show IsRow encE 5 ((((((((((w.alloc (.cells #[.int .i64 0, .int .i64 10] 80)).alloc (.cells #[.int .i64 10, .slice (some ⟨w.heap.size, 0, none⟩) 1 1, .slice none 0 0] 83)).alloc (.cells #[.int .i64 0] 3)).alloc (.cells #[.slice (some ⟨w.heap.size + 1 + 1, 0, none⟩) 1 1] 57)).alloc (.cells #[.slice (some ⟨w.heap.size + 1, 0, none⟩) 1 1, .slice (some ⟨w.heap.size + 1 + 1 + 1, 0, none⟩) 1 1, .int .i64 2] 37)).alloc (.cells #[.int .i64 0] 3)).alloc (.cells #[.int .i64 0] 3)).alloc (.cells #[.slice (some ⟨w.heap.size + 1 + 1 + 1 + 1 + 1, 0, none⟩) 1 1, .int .i64 5, .int .i64 0, .int .i64 0, .int .i64 9, .int .i64 0, .slice (some ⟨w.heap.size + 1 + 1 + 1 + 1 + 1 + 1, 0, none⟩) 1 1, .int .i64 5, .int .i64 0, .int .i64 0, .int .i64 9, .int .i64 1] 85)).alloc (.cells #[.int .i64 0, .int .i64 0, .int .i64 0, .int .i64 5, .int .i64 1, .int .i64 0, .int .i64 5, .int .i64 10] 76)).alloc (.cells #[.int .i64 1, .int .i64 0, .int .i64 8, .int .i64 9, .int .i64 0] 86)) (some ⟨w.heap.size + 1 + 1 + 1 + 1 + 1 + 1 + 1 + 1 + 1, 0, none⟩) 1 awE from isRow_lit encE_len (((((((((w.alloc (.cells #[.int .i64 0, .int .i64 10] 80)).alloc (.cells #[.int .i64 10, .slice (some ⟨w.heap.size, 0, none⟩) 1 1, .slice none 0 0] 83)).alloc (.cells #[.int .i64 0] 3)).alloc (.cells #[.slice (some ⟨w.heap.size + 1 + 1, 0, none⟩) 1 1] 57)).alloc (.cells #[.slice (some ⟨w.heap.size + 1, 0, none⟩) 1 1, .slice (some ⟨w.heap.size + 1 + 1 + 1, 0, none⟩) 1 1, .int .i64 2] 37)).alloc (.cells #[.int .i64 0] 3)).alloc (.cells #[.int .i64 0] 3)).alloc (.cells #[.slice (some ⟨w.heap.size + 1 + 1 + 1 + 1 + 1, 0, none⟩) 1 1, .int .i64 5, .int .i64 0, .int .i64 0, .int .i64 9, .int .i64 0, .slice (some ⟨w.heap.size + 1 + 1 + 1 + 1 + 1 + 1, 0, none⟩) 1 1, .int .i64 5, .int .i64 0, .int .i64 0, .int .i64 9, .int .i64 1] 85)).alloc (.cells #[.int .i64 0, .int .i64 0, .int .i64 0, .int .i64 5, .int .i64 1, .int .i64 0, .int .i64 5, .int .i64 10] 76)) _ _ _ 1 _ rfl rfl (by show 1 ≤ 1000; decide) (by simp)) Sx)
set_option maxRecDepth 100000 in
set_option maxHeartbeats 8000000 in
theorem awake54_any (w : World) : Yields Tryz.prog 9 #[] w (.bool true) := by
  apply Yields.ret
  have AA := fun W (hW : SinceOf ((((((((((w.alloc (.cells #[.int .i64 0, .int .i64 10] 80)).alloc (.cells #[.int .i64 10, .slice (some ⟨w.heap.size, 0, none⟩) 1 1, .slice none 0 0] 83)).alloc (.cells #[.int .i64 0] 3)).alloc (.cells #[.slice (some ⟨w.heap.size + 1 + 1, 0, none⟩) 1 1] 57)).alloc (.cells #[.slice (some ⟨w.heap.size + 1, 0, none⟩) 1 1, .slice (some ⟨w.heap.size + 1 + 1 + 1, 0, none⟩) 1 1, .int .i64 2] 37)).alloc (.cells #[.int .i64 0] 3)).alloc (.cells #[.int .i64 0] 3)).alloc (.cells #[.slice (some ⟨w.heap.size + 1 + 1 + 1 + 1 + 1, 0, none⟩) 1 1, .int .i64 5, .int .i64 0, .int .i64 0, .int .i64 9, .int .i64 0, .slice (some ⟨w.heap.size + 1 + 1 + 1 + 1 + 1 + 1, 0, none⟩) 1 1, .int .i64 5, .int .i64 0, .int .i64 0, .int .i64 9, .int .i64 1] 85)).alloc (.cells #[.int .i64 0, .int .i64 0, .int .i64 0, .int .i64 5, .int .i64 1, .int .i64 0, .int .i64 5, .int .i64 10] 76)).alloc (.cells #[.int .i64 1, .int .i64 0, .int .i64 8, .int .i64 9, .int .i64 0] 86)) W) => apply_any (exS54 (some ⟨w.heap.size + 1, 0, none⟩) (some ⟨w.heap.size, 0, none⟩) (some ⟨w.heap.size + 1 + 1 + 1, 0, none⟩) (some ⟨w.heap.size + 1 + 1, 0, none⟩)) (some ⟨w.heap.size + 1 + 1 + 1 + 1 + 1 + 1 + 1, 0, none⟩) 2 (exL54 (some ⟨w.heap.size + 1 + 1 + 1 + 1 + 1, 0, none⟩) (some ⟨w.heap.size + 1 + 1 + 1 + 1 + 1 + 1, 0, none⟩)) (some ⟨w.heap.size + 1 + 1 + 1 + 1 + 1 + 1 + 1 + 1, 0, none⟩) 2 awP 6 (some ⟨w.heap.size + 1 + 1 + 1 + 1 + 1 + 1 + 1 + 1 + 1, 0, none⟩) 1 awE W ((ex54_shop w).of hW) ((ex54_jobs w).of hW) ((ex54_plan w).of hW) ((ex54_evs w).of hW) (by decide) (by decide) (by decide)
  have AB := fun W (hW : SinceOf ((((((((((w.alloc (.cells #[.int .i64 0, .int .i64 10] 80)).alloc (.cells #[.int .i64 10, .slice (some ⟨w.heap.size, 0, none⟩) 1 1, .slice none 0 0] 83)).alloc (.cells #[.int .i64 0] 3)).alloc (.cells #[.slice (some ⟨w.heap.size + 1 + 1, 0, none⟩) 1 1] 57)).alloc (.cells #[.slice (some ⟨w.heap.size + 1, 0, none⟩) 1 1, .slice (some ⟨w.heap.size + 1 + 1 + 1, 0, none⟩) 1 1, .int .i64 2] 37)).alloc (.cells #[.int .i64 0] 3)).alloc (.cells #[.int .i64 0] 3)).alloc (.cells #[.slice (some ⟨w.heap.size + 1 + 1 + 1 + 1 + 1, 0, none⟩) 1 1, .int .i64 5, .int .i64 0, .int .i64 0, .int .i64 9, .int .i64 0, .slice (some ⟨w.heap.size + 1 + 1 + 1 + 1 + 1 + 1, 0, none⟩) 1 1, .int .i64 5, .int .i64 0, .int .i64 0, .int .i64 9, .int .i64 1] 85)).alloc (.cells #[.int .i64 0, .int .i64 0, .int .i64 0, .int .i64 5, .int .i64 1, .int .i64 0, .int .i64 5, .int .i64 10] 76)).alloc (.cells #[.int .i64 1, .int .i64 0, .int .i64 8, .int .i64 9, .int .i64 0] 86)) W) => apply_any (exS54 (some ⟨w.heap.size + 1, 0, none⟩) (some ⟨w.heap.size, 0, none⟩) (some ⟨w.heap.size + 1 + 1 + 1, 0, none⟩) (some ⟨w.heap.size + 1 + 1, 0, none⟩)) (some ⟨w.heap.size + 1 + 1 + 1 + 1 + 1 + 1 + 1, 0, none⟩) 2 (exL54 (some ⟨w.heap.size + 1 + 1 + 1 + 1 + 1, 0, none⟩) (some ⟨w.heap.size + 1 + 1 + 1 + 1 + 1 + 1, 0, none⟩)) (some ⟨w.heap.size + 1 + 1 + 1 + 1 + 1 + 1 + 1 + 1, 0, none⟩) 2 awP 3 (some ⟨w.heap.size + 1 + 1 + 1 + 1 + 1 + 1 + 1 + 1 + 1, 0, none⟩) 1 awE W ((ex54_shop w).of hW) ((ex54_jobs w).of hW) ((ex54_plan w).of hW) ((ex54_evs w).of hW) (by decide) (by decide) (by decide)
  rw [ex54_A] at AA
  rw [ex54_B] at AB
  go_enter Tryz.func9, Tryz.ntmps9
  go_wp2_with fail
  refine (AA _ Sx).mono ?_
  rintro e _ ⟨a, rfl, ha, hfa, ⟨y1, rfl⟩⟩
  have hsa := hfa.state
  obtain ⟨⟨asA, asc, acals, asB, asd, aR, amost⟩, aA, ac, aL, agA, agc, abg, apA, apc, apd, adA, adc, adr⟩ := a
  have hbg : abg = [⟨0, 0, 0, 5⟩, ⟨1, 0, 5, 11⟩] := congrArg StP.bg ha
  subst hbg
  obtain ⟨ga, oa, rfl, hra⟩ := hsa.bg.at_ (by show 0 < 2; decide)
  have hOa := hra.there
  have s3 := hra.s3 1 (by show 1 < 2; decide)
  simp only [List.getElem_cons_succ, List.getElem_cons_zero] at s3
  have hy1 := y1.size
  (try simp at hy1)
  clear AA ha hfa hsa hra
  go_wp2_with fail
  refine (AB _ Sx).mono ?_
  rintro e _ ⟨b, rfl, hb, hfb, ⟨y2, rfl⟩⟩
  have hsb := hfb.state
  have hbl : b.L.length = 2 := by have h := congrArg (fun x : StP => x.L.length) hb; simp only [erSt, erL_length] at h; exact h
  have hbg : b.bg.length = 1 := by have h := congrArg (fun x : StP => x.bg.length) hb; exact h
  have hbp : b.pd.length = 1 := by have h := congrArg (fun x : StP => x.pd.length) hb; exact h
  have hbd : b.dr.length = 2 := by have h := congrArg (fun x : StP => x.dr.length) hb; exact h
  have RP := fun W (hW : SinceOf y2.wd W) => replan_any b W (hsb.of hW) (by omega) (by omega) (by omega) (by omega)
  have LS := fun W (hW : SinceOf y2.wd W) => least_any b W (hsb.of hW) (by omega) (by omega) (by omega) (by omega)
  rw [hb] at RP LS
  rw [show replanV awB = _ from aw_replan] at RP
  rw [show leastV awB = _ from aw_least] at LS
  obtain ⟨⟨bsA, bsc, bcals, bsB, bsd, bR, bmost⟩, bA, bc, bL, bgA, bgc, bbg, bpA, bpc, bpd, bdA, bdc, bdr⟩ := b
  simp only at hbp
  have HB := Lib.hid hbp
  have hy2 := y2.size
  (try simp at hy2)
  clear AB hb hfb hsb hbl hbg hbp hbd
  go_wp2_with fail
  refine (RP _ Sx).mono ?_
  rintro e _ ⟨⟨⟨xs, xm, xl⟩, xA, xc, xmA, xmc, xlA, xlc⟩, rfl, hx, hrx, ⟨y3, rfl⟩⟩
  simp only at hx
  injection hx with hx1 hx2 hx3
  subst hx1 hx2 hx3
  obtain ⟨gx, ox, hgx, hrr⟩ := hrx.slots.at_ (by show 0 < 2; decide)
  simp only at hgx hrr
  subst hgx
  have hOx := hrr.there
  have q0 := hrr.s0 1 (by show 1 < 2; decide)
  have q1 := hrr.s1 1 (by show 1 < 2; decide)
  have q2 := hrr.s2 1 (by show 1 < 2; decide)
  have q3 := hrr.s3 1 (by show 1 < 2; decide)
  simp only [List.getElem_cons_succ, List.getElem_cons_zero] at q0 q1 q2 q3
  have hy3 := y3.size
  (try simp at hy3)
  clear RP hrx hrr
  go_wp2_with fail
  refine (LS _ Sx).mono ?_
  rintro e _ ⟨⟨⟨ys, ym, yl⟩, yA, yc, ymA, ymc, ylA, ylc⟩, rfl, hy, hry, ⟨y4, rfl⟩⟩
  simp only at hy
  injection hy with hy1' hy2' hy3'
  subst hy1' hy2' hy3'
  have hy4 := y4.size
  (try simp at hy4)
  clear LS hry
  go_upto_region 9 with fail
  have hbp := HB.out
  go_wp2_with fail
  go_returns
  exact ⟨rfl, Sx⟩
end Go.Proofs.YtpaojgfmffkodaaGreat
