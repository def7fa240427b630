/- Plain arithmetic that goes round at 2^64. -/
import Derived.Test.YtpbgimdbhgahkaaGreatVecB
namespace Go.Proofs.YtpbgimdbhgahkaaGreat
open Go.RowKit

theorem wrap_add_l (x y : Int) : wrap64 (wrap64 x + y) = wrap64 (x + y) := by unfold wrap64; omega
theorem wrap_add_r (x y : Int) : wrap64 (x + wrap64 y) = wrap64 (x + y) := by unfold wrap64; omega
theorem wrap_sub_l (x y : Int) : wrap64 (wrap64 x - y) = wrap64 (x - y) := by unfold wrap64; omega
theorem wrap_sub_r (x y : Int) : wrap64 (x - wrap64 y) = wrap64 (x - y) := by unfold wrap64; omega
theorem wrap_neg (x : Int) : wrap64 (-wrap64 x) = wrap64 (-x) := by unfold wrap64; omega
theorem wrap_wrap (x : Int) : wrap64 (wrap64 x) = wrap64 x := by unfold wrap64; omega
theorem wrap_turns (x : Int) : ∃ k : Int, wrap64 x = x + 18446744073709551616 * k := ⟨-((x + 9223372036854775808) / 18446744073709551616), by unfold wrap64; omega⟩
theorem wrap_round (x k : Int) : wrap64 (x + 18446744073709551616 * k) = wrap64 x := by unfold wrap64; omega
theorem wrap_mul_r (x y : Int) : wrap64 (x * wrap64 y) = wrap64 (x * y) := by
  obtain ⟨k, hk⟩ := wrap_turns y
  rw [hk, Int.mul_add, show x * (18446744073709551616 * k) = 18446744073709551616 * (x * k) from by rw [← Int.mul_assoc, Int.mul_comm x, Int.mul_assoc], wrap_round]
theorem wrap_mul_l (x y : Int) : wrap64 (wrap64 x * y) = wrap64 (x * y) := by rw [Int.mul_comm, wrap_mul_r, Int.mul_comm]
theorem crossI_eq (a b c d : Int) : crossI a b c d = wrap64 (a * d - b * c) := by unfold crossI wsub wmul; rw [wrap_sub_l, wrap_sub_r]
theorem dotI_eq (a b c d : Int) : dotI a b c d = wrap64 (a * c + b * d) := by unfold dotI wadd wmul; rw [wrap_add_l, wrap_add_r]
theorem cross_anti (a b c d : Int) : wrap64 (-crossI c d a b) = crossI a b c d := by
  rw [crossI_eq, crossI_eq, wrap_neg]; congr 1; rw [Int.mul_comm c b, Int.mul_comm d a]; omega
theorem cross_self (a b : Int) : crossI a b a b = 0 := by rw [crossI_eq, Int.mul_comm b a, Int.sub_self]; unfold wrap64; omega
theorem dot_symm (a b c d : Int) : dotI c d a b = dotI a b c d := by rw [dotI_eq, dotI_eq, Int.mul_comm c, Int.mul_comm d]
theorem cross_add (a b c d e f : Int) : crossI a b (wadd c e) (wadd d f) = wrap64 (crossI a b c d + crossI a b e f) := by
  rw [crossI_eq, crossI_eq, crossI_eq, wrap_add_l, wrap_add_r]
  unfold wadd
  rw [← wrap_sub_l, ← wrap_sub_r, wrap_mul_r, wrap_mul_r, wrap_sub_l, wrap_sub_r, Int.mul_add, Int.mul_add]
  congr 1; omega
theorem dot_add (a b c d e f : Int) : dotI a b (wadd c e) (wadd d f) = wrap64 (dotI a b c d + dotI a b e f) := by
  rw [dotI_eq, dotI_eq, dotI_eq, wrap_add_l, wrap_add_r]
  unfold wadd
  rw [← wrap_add_l, ← wrap_add_r, wrap_mul_r, wrap_mul_r, wrap_add_l, wrap_add_r, Int.mul_add, Int.mul_add]
  congr 1; omega
end Go.Proofs.YtpbgimdbhgahkaaGreat
/- Plain arithmetic for the laws of layer 6: no program in sight. -/
namespace Go.Proofs.YtpbgimdbhgahkaaGreat
open Go.RowKit

theorem mul_bound (x y m n : Int) (hm : 0 ≤ m) (hn : 0 ≤ n) (hx : -m ≤ x ∧ x ≤ m) (hy : -n ≤ y ∧ y ≤ n) : -(m * n) ≤ x * y ∧ x * y ≤ m * n := by
  have h : (x * y).natAbs ≤ (m * n).natAbs := by
    rw [Int.natAbs_mul, Int.natAbs_mul]; exact Nat.mul_le_mul (by omega) (by omega)
  have hp : 0 ≤ m * n := Int.mul_nonneg hm hn
  generalize x * y = z at *
  generalize m * n = k at *
  omega
theorem wsub_in {x y : Int} (h : -9223372036854775808 ≤ x - y ∧ x - y ≤ 9223372036854775807) : wsub x y = x - y := by unfold wsub wrap64; omega
theorem wadd_in {x y : Int} (h : -9223372036854775808 ≤ x + y ∧ x + y ≤ 9223372036854775807) : wadd x y = x + y := by unfold wadd wrap64; omega
theorem wmul_in {x y : Int} (h : -9223372036854775808 ≤ x * y ∧ x * y ≤ 9223372036854775807) : wmul x y = x * y := by unfold wmul wrap64; omega
theorem wneg_in {x : Int} (h : -9223372036854775807 ≤ x ∧ x ≤ 9223372036854775807) : wneg x = -x := by unfold wneg wrap64; omega

/-- Within 2^29. -/
def near29 (x : Int) : Prop := -536870912 ≤ x ∧ x ≤ 536870912
theorem cross_exact {a b c d : Int} (ha : -1073741824 ≤ a ∧ a ≤ 1073741824) (hb : -1073741824 ≤ b ∧ b ≤ 1073741824) (hc : -1073741824 ≤ c ∧ c ≤ 1073741824) (hd : -1073741824 ≤ d ∧ d ≤ 1073741824) : crossI a b c d = a * d - b * c := by
  have h1 := mul_bound a d 1073741824 1073741824 (by omega) (by omega) ha hd
  have h2 := mul_bound b c 1073741824 1073741824 (by omega) (by omega) hb hc
  unfold crossI
  rw [wmul_in (by omega), wmul_in (by omega), wsub_in (by omega)]
theorem turn_exact {a b c d e f : Int} (ha : near29 a) (hb : near29 b) (hc : near29 c) (hd : near29 d) (he : near29 e) (hf : near29 f) : turnI a b c d e f = cmpi ((c - a) * (f - b) - (d - b) * (e - a)) 0 := by
  unfold near29 at *
  unfold turnI
  rw [wsub_in (by omega), wsub_in (by omega), wsub_in (by omega), wsub_in (by omega), cross_exact (by omega) (by omega) (by omega) (by omega)]
theorem cmpi_neg (x : Int) : cmpi (-x) 0 = -cmpi x 0 := by
  rcases cmpi_cases x 0 with ⟨h1, e⟩ | ⟨h1, h2, e⟩ | ⟨h1, h2, e⟩ <;> rcases cmpi_cases (-x) 0 with ⟨g1, f⟩ | ⟨g1, g2, f⟩ | ⟨g1, g2, f⟩ <;> rw [e, f] <;> omega
theorem cmpi_range (x y : Int) : -1 ≤ cmpi x y ∧ cmpi x y ≤ 1 := by
  rcases cmpi_cases x y with ⟨h1, e⟩ | ⟨h1, h2, e⟩ | ⟨h1, h2, e⟩ <;> rw [e] <;> omega
theorem turn_range (a b c d e f : Int) : -1 ≤ turnI a b c d e f ∧ turnI a b c d e f ≤ 1 := cmpi_range _ _

theorem within_spec {x y : Int} (h : withinB x y 268435456 = true) : (-268435456 ≤ x ∧ x ≤ 268435456) ∧ (-268435456 ≤ y ∧ y ≤ 268435456) := by
  unfold withinB at h
  rw [show wneg 268435456 = -268435456 from by unfold wneg wrap64; omega] at h
  simp only [Bool.and_eq_true, decide_eq_true_eq] at h
  omega

section
variable {a b c d e f v w : Int} (ha : -268435456 ≤ a ∧ a ≤ 268435456) (hb : -268435456 ≤ b ∧ b ≤ 268435456) (hc : -268435456 ≤ c ∧ c ≤ 268435456) (hd : -268435456 ≤ d ∧ d ≤ 268435456) (he : -268435456 ≤ e ∧ e ≤ 268435456) (hf : -268435456 ≤ f ∧ f ≤ 268435456) (hv : -268435456 ≤ v ∧ v ≤ 268435456) (hw : -268435456 ≤ w ∧ w ≤ 268435456)
include ha hb hc hd he hf
theorem turn_cyclic : turnI c d e f a b = turnI a b c d e f := by
  rw [turn_exact (by unfold near29; omega) (by unfold near29; omega) (by unfold near29; omega) (by unfold near29; omega) (by unfold near29; omega) (by unfold near29; omega),
    turn_exact (by unfold near29; omega) (by unfold near29; omega) (by unfold near29; omega) (by unfold near29; omega) (by unfold near29; omega) (by unfold near29; omega)]
  congr 1
  grind
theorem turn_swap : turnI a b e f c d = -turnI a b c d e f := by
  rw [turn_exact (by unfold near29; omega) (by unfold near29; omega) (by unfold near29; omega) (by unfold near29; omega) (by unfold near29; omega) (by unfold near29; omega),
    turn_exact (by unfold near29; omega) (by unfold near29; omega) (by unfold near29; omega) (by unfold near29; omega) (by unfold near29; omega) (by unfold near29; omega), ← cmpi_neg]
  congr 1
  grind
include hv hw
theorem turn_moved : turnI (wadd a v) (wadd b w) (wadd c v) (wadd d w) (wadd e v) (wadd f w) = turnI a b c d e f := by
  rw [wadd_in (by omega), wadd_in (by omega), wadd_in (by omega), wadd_in (by omega), wadd_in (by omega), wadd_in (by omega)]
  rw [turn_exact (by unfold near29; omega) (by unfold near29; omega) (by unfold near29; omega) (by unfold near29; omega) (by unfold near29; omega) (by unfold near29; omega),
    turn_exact (by unfold near29; omega) (by unfold near29; omega) (by unfold near29; omega) (by unfold near29; omega) (by unfold near29; omega) (by unfold near29; omega)]
  congr 1
  grind
end
section
variable {a b c d v w : Int} (ha : -268435456 ≤ a ∧ a ≤ 268435456) (hb : -268435456 ≤ b ∧ b ≤ 268435456) (hc : -268435456 ≤ c ∧ c ≤ 268435456) (hd : -268435456 ≤ d ∧ d ≤ 268435456) (hv : -268435456 ≤ v ∧ v ≤ 268435456) (hw : -268435456 ≤ w ∧ w ≤ 268435456)
include ha hb hc hd
theorem turn_same : turnI a b c d c d = 0 := by
  rw [turn_exact (by unfold near29; omega) (by unfold near29; omega) (by unfold near29; omega) (by unfold near29; omega) (by unfold near29; omega) (by unfold near29; omega)]
  rw [show (c - a) * (d - b) - (d - b) * (c - a) = 0 from by grind]
  decide
include hv hw
theorem vcmp_moved : vcmp (wadd a v) (wadd b w) (wadd c v) (wadd d w) = vcmp a b c d := by
  rw [wadd_in (by omega), wadd_in (by omega), wadd_in (by omega), wadd_in (by omega)]
  unfold vcmp
  rw [show cmpi (b + w) (d + w) = cmpi b d from by unfold cmpi; simp, show cmpi (a + v) (c + v) = cmpi a c from by unfold cmpi; simp]
end
theorem vcmp_cases (a b c d : Int) : ((b < d ∨ (b = d ∧ a < c)) ∧ vcmp a b c d = -1) ∨ ((d < b ∨ (b = d ∧ c < a)) ∧ vcmp a b c d = 1) ∨ (b = d ∧ a = c ∧ vcmp a b c d = 0) := by
  unfold vcmp or2
  rcases cmpi_cases b d with ⟨h1, e⟩ | ⟨h1, h2, e⟩ | ⟨h1, h2, e⟩ <;> rcases cmpi_cases a c with ⟨g1, f⟩ | ⟨g1, g2, f⟩ | ⟨g1, g2, f⟩ <;> rw [e, f] <;> simp <;> omega
theorem vcmp_swap (a b c d : Int) : vcmp c d a b = -vcmp a b c d := by
  rcases vcmp_cases a b c d with ⟨h, e⟩ | ⟨h, e⟩ | ⟨h1, h2, e⟩ <;> rcases vcmp_cases c d a b with ⟨g, f⟩ | ⟨g, f⟩ | ⟨g1, g2, f⟩ <;> rw [e, f] <;> omega
theorem vcmp_zero (a b c d : Int) : (vcmp a b c d == 0) = eqv a b c d := by
  unfold eqv
  rcases vcmp_cases a b c d with ⟨h, e⟩ | ⟨h, e⟩ | ⟨h1, h2, e⟩ <;> rw [e] <;> simp <;> omega
theorem vcmp_range (a b c d : Int) : -1 ≤ vcmp a b c d ∧ vcmp a b c d ≤ 1 := by
  rcases vcmp_cases a b c d with ⟨h, e⟩ | ⟨h, e⟩ | ⟨h1, h2, e⟩ <;> rw [e] <;> omega
theorem vcmp_trans {a b c d e f : Int} (h : vcmp a b c d ≤ 0) (k : vcmp c d e f ≤ 0) : vcmp a b e f ≤ 0 := by
  rcases vcmp_cases a b c d with ⟨h, x⟩ | ⟨h, x⟩ | ⟨h1, h2, x⟩ <;> rcases vcmp_cases c d e f with ⟨g, y⟩ | ⟨g, y⟩ | ⟨g1, g2, y⟩ <;> rcases vcmp_cases a b e f with ⟨p, z⟩ | ⟨p, z⟩ | ⟨p1, p2, z⟩ <;> rw [z] <;> omega
end Go.Proofs.YtpbgimdbhgahkaaGreat
