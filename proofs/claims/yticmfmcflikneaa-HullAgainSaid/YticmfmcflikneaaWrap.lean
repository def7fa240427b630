/- Plain arithmetic that goes round at 2^64. -/
import Derived.Test.YticmfmcflikneaaVecB
namespace Go.Proofs.Yticmfmcflikneaa
open Go.RowKit

theorem wrap_add_l (x y : Int) : wrap64 (wrap64 x + y) = wrap64 (x + y) := by unfold wrap64; omega
theorem wrap_add_r (x y : Int) : wrap64 (x + wrap64 y) = wrap64 (x + y) := by unfold wrap64; omega
theorem wrap_sub_l (x y : Int) : wrap64 (wrap64 x - y) = wrap64 (x - y) := by unfold wrap64; omega
theorem wrap_sub_r (x y : Int) : wrap64 (x - wrap64 y) = wrap64 (x - y) := by unfold wrap64; omega
theorem wrap_neg (x : Int) : wrap64 (-wrap64 x) = wrap64 (-x) := by unfold wrap64; omega
theorem wrap_wrap (x : Int) : wrap64 (wrap64 x) = wrap64 x := by unfold wrap64; omega
theorem wrap_turns (x : Int) : ∃ k : Int, wrap64 x = x + 18446744073709551616 * k := ⟨-((x + 9223372036854775808) / 18446744073709551616), by unfold wrap64; omega⟩
theorem wrap_round (x k : Int) : wrap64 (x + 18446744073709551616 * k) = wrap64 x := by unfold wrap64; omega
theorem wrap_mul_r (x y : Int) : wrap64 (x * wrap64 y) = wrap64 (x * y) := by
  obtain ⟨k, hk⟩ := wrap_turns y
  rw [hk, Int.mul_add, show x * (18446744073709551616 * k) = 18446744073709551616 * (x * k) from by rw [← Int.mul_assoc, Int.mul_comm x, Int.mul_assoc], wrap_round]
theorem wrap_mul_l (x y : Int) : wrap64 (wrap64 x * y) = wrap64 (x * y) := by rw [Int.mul_comm, wrap_mul_r, Int.mul_comm]
theorem crossI_eq (a b c d : Int) : crossI a b c d = wrap64 (a * d - b * c) := by unfold crossI wsub wmul; rw [wrap_sub_l, wrap_sub_r]
theorem dotI_eq (a b c d : Int) : dotI a b c d = wrap64 (a * c + b * d) := by unfold dotI wadd wmul; rw [wrap_add_l, wrap_add_r]
theorem cross_anti (a b c d : Int) : wrap64 (-crossI c d a b) = crossI a b c d := by
  rw [crossI_eq, crossI_eq, wrap_neg]; congr 1; rw [Int.mul_comm c b, Int.mul_comm d a]; omega
theorem cross_self (a b : Int) : crossI a b a b = 0 := by rw [crossI_eq, Int.mul_comm b a, Int.sub_self]; unfold wrap64; omega
theorem dot_symm (a b c d : Int) : dotI c d a b = dotI a b c d := by rw [dotI_eq, dotI_eq, Int.mul_comm c, Int.mul_comm d]
theorem cross_add (a b c d e f : Int) : crossI a b (wadd c e) (wadd d f) = wrap64 (crossI a b c d + crossI a b e f) := by
  rw [crossI_eq, crossI_eq, crossI_eq, wrap_add_l, wrap_add_r]
  unfold wadd
  rw [← wrap_sub_l, ← wrap_sub_r, wrap_mul_r, wrap_mul_r, wrap_sub_l, wrap_sub_r, Int.mul_add, Int.mul_add]
  congr 1; omega
theorem dot_add (a b c d e f : Int) : dotI a b (wadd c e) (wadd d f) = wrap64 (dotI a b c d + dotI a b e f) := by
  rw [dotI_eq, dotI_eq, dotI_eq, wrap_add_l, wrap_add_r]
  unfold wadd
  rw [← wrap_add_l, ← wrap_add_r, wrap_mul_r, wrap_mul_r, wrap_add_l, wrap_add_r, Int.mul_add, Int.mul_add]
  congr 1; omega
end Go.Proofs.Yticmfmcflikneaa
