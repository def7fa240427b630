/- Layer 15: MinFunc, Index, Concat, begun of the program. -/
import Derived.Test.YtkpnffokjpgalaaGreatKMink1
import Derived.Lib.AppendZerosOnto
import Derived.Test.YtkpnffokjpgalaaGreatKRefSorted
namespace Go.Proofs.YtkpnffokjpgalaaGreat
set_option linter.unusedVariables false
set_option linter.unusedSimpArgs false
open Go.RowKit Go.Sort
attribute [local go_sem ↓] Go.wp_at_zero Go.wp_at_succ

def catAt (l1 l2 : List (Int × Int)) (k : Nat) : List (Int × Int) := if k = 0 then [] else if k = 1 then l1 else l1 ++ l2
theorem catAt_len (l1 l2 : List (Int × Int)) (k : Nat) : (catAt l1 l2 k).length ≤ l1.length + l2.length := by unfold catAt; split <;> (try split) <;> simp
theorem lexy_trans {p q r : Pt} (h : lexy p q) (k : lexy q r) : lexy p r := by unfold lexy at *; omega
theorem vcmp_lexy (p q : Pt) : vcmp p.1 p.2 q.1 q.2 < 0 ↔ lexy p q := by
  unfold lexy
  rcases vcmp_cases p.1 p.2 q.1 q.2 with ⟨h, e⟩ | ⟨h, e⟩ | ⟨h, h2, e⟩ <;> rw [e] <;> omega
theorem VarV.other {W : World} {g k : Nat} {p : Pt} (h : VarV W g p) (hne : k ≠ g) (x y : Value) : VarV ((W.setCell ⟨k, 0, none⟩ x).setCell ⟨k, 1, none⟩ y) g p := by
  have hA : Nonempty (Apart g k) := ⟨⟨fun e => hne e.symm⟩⟩
  exact ⟨by rw [cell_apart, cell_apart]; exact h.c0, by rw [cell_apart, cell_apart]; exact h.c1, by simpa using h.f0, by simpa using h.f1, by simpa [World.setCell] using h.lt⟩
end Go.Proofs.YtkpnffokjpgalaaGreat
/- Layer 15: Valid of the reference. -/
namespace Go.Proofs.YtkpnffokjpgalaaGreat
set_option linter.unusedVariables false
set_option linter.unusedSimpArgs false
open Go.RowKit Go.Sort
attribute [local go_sem ↓] Go.wp_at_zero Go.wp_at_succ

theorem turn_near {m : Int} (hm : m ≤ 100000) {a b c : Pt} (ha : near m a) (hb : near m b) (hc : near m c) : turnI a.1 a.2 b.1 b.2 c.1 c.2 = cmpi (det a b c) 0 := by
  unfold near at ha hb hc
  rw [turn_exact (by unfold near29; omega) (by unfold near29; omega) (by unfold near29; omega) (by unfold near29; omega) (by unfold near29; omega) (by unfold near29; omega)]
  rfl
theorem cmpi_pos (x : Int) : 0 < cmpi x 0 ↔ 0 < x := by unfold cmpi; split <;> (try split) <;> omega
theorem cmpi_le (x : Int) : cmpi x 0 ≤ 0 ↔ x ≤ 0 := by unfold cmpi; split <;> (try split) <;> omega
theorem cmpi_lt (x : Int) : cmpi x 0 < 0 ↔ x < 0 := by unfold cmpi; split <;> (try split) <;> omega
theorem cmpi_eq0 (x : Int) : cmpi x 0 = 0 ↔ x = 0 := by unfold cmpi; split <;> (try split) <;> omega
theorem valid_no {r : List Pt} (h : ¬ Conv15 r) : validB r = false := by
  cases q : validB r
  · rfl
  · exact absurd (validB_iff.1 q) h
end Go.Proofs.YtkpnffokjpgalaaGreat
