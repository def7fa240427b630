/- Layer 52: equality of costs. -/
import Derived.Test.YtbceogoeoojdbaaSch18
import Derived.Laws.StructEq
namespace Go.Proofs.Ytbceogoeoojdbaa
open Go.RowKit Go.Sort
set_option linter.unusedVariables false

/-- Are two costs one? -/
def eqC (a0 a1 a2 a3 b0 b1 b2 b3 : Int) : Bool := a0 == b0 && (a1 == b1 && (a2 == b2 && a3 == b3))
theorem equalIn_cost (w : World) (a0 a1 a2 a3 b0 b1 b2 b3 : Int) : (Op.equalIn 10000 74 (costV a0 a1 a2 a3) (costV b0 b1 b2 b3)).run Try.prog w = .ok (eqC a0 a1 a2 a3 b0 b1 b2 b3) w := by
  have u3 := Try.underlying3
  have a3' := Try.isAgg3
  have z3 := Try.sizeOf3
  have hS : Try.prog.underlying 74 = some (.struct (Try.prog.fieldsOf 74)) := by kernel_rfl
  have hp : Try.prog.stoodInHeld 74 = false := by kernel_rfl
  rw [show (10000 : Nat) = 9999 + 1 from rfl, run_equalIn_agg w 9999 74 _ _ hS hp]
  simp only [Program.fieldsOf, Try.underlying74]
  unfold eqC
  go_simp
  by_cases h1 : a0 = b0 <;> by_cases h2 : a1 = b1 <;> by_cases h3 : a2 = b2 <;> by_cases h4 : a3 = b3 <;> simp [h1, h2, h3, h4]
@[go_sem ↓] theorem neq_cost (w : World) (a0 a1 a2 a3 b0 b1 b2 b3 : Int) : (binOp .neq 74 (costV a0 a1 a2 a3) (costV b0 b1 b2 b3)).run Try.prog w = .ok (.bool (!eqC a0 a1 a2 a3 b0 b1 b2 b3)) w := by
  rw [run_neq_struct, equalIn_cost]; rfl
@[go_sem ↓] theorem eqGuard_cost (w : World) (op : BinOp) (x y : Operand) (a0 a1 a2 a3 b0 b1 b2 b3 : Int) : (eqGuard op 74 x y (costV a0 a1 a2 a3) (costV b0 b1 b2 b3)).run Try.prog w = .ok () w :=
  run_eqGuard_agg w op _ x y _ _ (by kernel_rfl)
/-- Of two costs that differ exactly one is less; less is transitive. -/
theorem lessC_order (a0 a1 a2 a3 b0 b1 b2 b3 : Int) : (lessC a0 a1 a2 a3 b0 b1 b2 b3 = true ∧ lessC b0 b1 b2 b3 a0 a1 a2 a3 = false ∧ eqC a0 a1 a2 a3 b0 b1 b2 b3 = false) ∨ (lessC a0 a1 a2 a3 b0 b1 b2 b3 = false ∧ lessC b0 b1 b2 b3 a0 a1 a2 a3 = true ∧ eqC a0 a1 a2 a3 b0 b1 b2 b3 = false) ∨ (lessC a0 a1 a2 a3 b0 b1 b2 b3 = false ∧ lessC b0 b1 b2 b3 a0 a1 a2 a3 = false ∧ eqC a0 a1 a2 a3 b0 b1 b2 b3 = true) := by
  have e : eqC a0 a1 a2 a3 b0 b1 b2 b3 = decide (a0 = b0 ∧ a1 = b1 ∧ a2 = b2 ∧ a3 = b3) := by unfold eqC; rw [Bool.eq_iff_iff]; simp
  rw [e]
  rcases lessC_cases a0 a1 a2 a3 b0 b1 b2 b3 with ⟨h0, k⟩ | ⟨h0, h1, k⟩ | ⟨h0, h1, h2, k⟩ | ⟨h0, h1, h2, k⟩ <;> rcases lessC_cases b0 b1 b2 b3 a0 a1 a2 a3 with ⟨g0, j⟩ | ⟨g0, g1, j⟩ | ⟨g0, g1, g2, j⟩ | ⟨g0, g1, g2, j⟩ <;> rw [k, j] <;> simp only [decide_eq_true_eq, decide_eq_false_iff_not] <;> omega
end Go.Proofs.Ytbceogoeoojdbaa
