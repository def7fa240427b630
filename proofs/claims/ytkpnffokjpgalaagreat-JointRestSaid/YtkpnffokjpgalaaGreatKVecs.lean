/- Slices of vectors: Clone, Same. -/
import Derived.Test.YtkpnffokjpgalaaGreatKVecB
import Derived.Test.YtkpnffokjpgalaaGreatKSl
import Derived.Lib.Hide
import Derived.Outline
import Derived.WalkSpells
namespace Go.Proofs.YtkpnffokjpgalaaGreat
set_option linter.unusedVariables false
set_option linter.unusedSimpArgs false
open Go.RowKit

def encV (p : Int × Int) : List Value := [.int .i64 p.1, .int .i64 p.2]
theorem encV_len (p : Int × Int) : (encV p).length = 2 := rfl
theorem encV_one (p : Int × Int) : ∀ u ∈ encV p, u.oneCell' = true := by
  intro u hu; simp [encV] at hu; rcases hu with rfl | rfl <;> rfl
theorem infoVec : (Tryz.prog.info? 25).map (fun i => (i.zero, i.size, i.bytes)) = some (some (.agg #[.int .i64 0, .int .i64 0]), 2, 16) := by kernel_rfl
abbrev IsVecs (w : World) (A : Option Addr) (c : Nat) (l : List (Int × Int)) : Prop := IsRow encV 2 w A c l
abbrev OwnVecs (base : Nat) (w : World) (A : Option Addr) (c : Nat) (l : List (Int × Int)) : Prop := Owns encV 2 base 25 w A c l

theorem RowAt.v0 {w : World} {g off : Nat} {l : List (Int × Int)} (h : RowAt encV 2 w g off l) (i : Nat) (hi : i < l.length) : w.cell? ⟨g, off + i * 2, none⟩ = some (.int .i64 l[i].1) := by
  have := h.cells i hi 0 (.int .i64 l[i].1) rfl; simpa using this
theorem RowAt.v1 {w : World} {g off : Nat} {l : List (Int × Int)} (h : RowAt encV 2 w g off l) (i : Nat) (hi : i < l.length) : w.cell? ⟨g, off + i * 2 + 1, none⟩ = some (.int .i64 l[i].2) :=
  h.cells i hi 1 (.int .i64 l[i].2) rfl

@[go_sem] theorem eql_vecs_nil (w : World) (A : Option Addr) (n c n' c' : Nat) : (binOp .eql 22 (.slice A n c) (.slice none n' c')).run Tryz.prog w = .ok (.bool A.isNone) w :=
  Lib.run_eql_slice_nil w _ _ A n c n' c' Tryz.underlying22

end Go.Proofs.YtkpnffokjpgalaaGreat
