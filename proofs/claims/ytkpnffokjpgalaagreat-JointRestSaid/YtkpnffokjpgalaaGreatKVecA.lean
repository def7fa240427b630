/- Contracts of the leaves of package vec: each returns its value, and leaves all old memory as it was. -/
import Derived.Test.YtkpnffokjpgalaaGreatChecked
import Derived.Test.YtkpnffokjpgalaaGreatKSl
import Derived.Outline
import Derived.Laws.StructEq
namespace Go.Proofs.YtkpnffokjpgalaaGreat
set_option linter.unusedVariables false
set_option linter.unusedSimpArgs false
open Go.RowKit

/-- A number that an int holds. -/
def i64 (a : Int) : Prop := -9223372036854775808 ≤ a ∧ a ≤ 9223372036854775807
theorem i64.wrap {a : Int} (h : i64 a) : wrap64 a = a := by unfold i64 at h; unfold wrap64; omega
/-- int's own sums, differences, products: plain names, so that no simplifier spells a slot anew. -/
def wadd (a b : Int) : Int := wrap64 (a + b)
def wsub (a b : Int) : Int := wrap64 (a - b)
def wneg (a : Int) : Int := wrap64 (-a)
def wmul (a b : Int) : Int := wrap64 (a * b)
def dotI (a b c d : Int) : Int := wadd (wmul a c) (wmul b d)
def crossI (a b c d : Int) : Int := wsub (wmul a d) (wmul b c)
abbrev vv (x y : Int) : Value := .agg #[.int .i64 x, .int .i64 y]

theorem equalIn_vec (w : World) (a b c d : Int) : (Op.equalIn 10000 25 (vv a b) (vv c d)).run Tryz.prog w = .ok (a == c && b == d) w := by
  have u3 := Tryz.underlying3
  have a3 := Tryz.isAgg3
  have z3 := Tryz.sizeOf3
  have hS : Tryz.prog.underlying 25 = some (.struct (Tryz.prog.fieldsOf 25)) := by kernel_rfl
  have hp : Tryz.prog.stoodInHeld 25 = false := by kernel_rfl
  rw [show (10000 : Nat) = 9999 + 1 from rfl, run_equalIn_agg w 9999 25 _ _ hS hp]
  simp only [Program.fieldsOf, Tryz.underlying25]
  go_simp
  by_cases h1 : a = c <;> by_cases h2 : b = d <;> simp [h1, h2]
/-- Are two vectors one? A plain name: the walk decides it by 'eqv_self', or by a fact of the context. -/
def eqv (a b c d : Int) : Bool := a == c && b == d
@[go_sem] theorem eqv_self (a b : Int) : eqv a b a b = true := by simp [eqv]
theorem eqv_iff {a b c d : Int} : eqv a b c d = true ↔ a = c ∧ b = d := by simp [eqv]
theorem eqv_false {a b c d : Int} (h : ¬ (a = c ∧ b = d)) : eqv a b c d = false := by
  cases h' : eqv a b c d with
  | false => rfl
  | true => exact absurd (eqv_iff.1 h') h
@[go_sem ↓] theorem eql_vec (w : World) (a b c d : Int) : (binOp .eql 25 (vv a b) (vv c d)).run Tryz.prog w = .ok (.bool (eqv a b c d)) w := by
  rw [run_eql_struct, equalIn_vec]; rfl
@[go_sem ↓] theorem neq_vec (w : World) (a b c d : Int) : (binOp .neq 25 (vv a b) (vv c d)).run Tryz.prog w = .ok (.bool (!eqv a b c d)) w := by
  rw [run_neq_struct, equalIn_vec]; rfl
@[go_sem ↓] theorem eqGuard_vec (w : World) (op : BinOp) (x y : Operand) (a b c d : Int) : (eqGuard op 25 x y (vv a b) (vv c d)).run Tryz.prog w = .ok () w :=
  run_eqGuard_agg w op _ x y _ _ (by kernel_rfl)

theorem sub_any (a b c d : Int) (w : World) : Gives Tryz.prog 43 #[vv a b, vv c d] w (vv (wsub a c) (wsub b d)) := by
  apply Gives.ret
  go_enter Tryz.func43, Tryz.ntmps43
  go_wp2
  go_returns
  exact ⟨rfl, by (repeat (first | (with_reducible exact LaterOf.refl _) | (with_reducible refine LaterOf.alloc ?_ _) | (with_reducible refine LaterOf.drew ?_) | (with_reducible refine LaterOf.drewN ?_ _) | (with_reducible refine LaterOf.later ?_ _) | (with_reducible refine LaterOf.setCell ?_ (by first | exact Nat.le_refl _ | (simp; done) | omega | (simp; omega)) _)))⟩
theorem cross_any (a b c d : Int) (w : World) : Gives Tryz.prog 101 #[vv a b, vv c d] w (.int .i64 (crossI a b c d)) := by
  apply Gives.ret
  go_enter Tryz.func101, Tryz.ntmps101
  go_wp2
  go_returns
  exact ⟨rfl, by (repeat (first | (with_reducible exact LaterOf.refl _) | (with_reducible refine LaterOf.alloc ?_ _) | (with_reducible refine LaterOf.drew ?_) | (with_reducible refine LaterOf.drewN ?_ _) | (with_reducible refine LaterOf.later ?_ _) | (with_reducible refine LaterOf.setCell ?_ (by first | exact Nat.le_refl _ | (simp; done) | omega | (simp; omega)) _)))⟩

end Go.Proofs.YtkpnffokjpgalaaGreat
