/- Slices of vectors: Clone, Same. -/
import Derived.Test.YtpehkfnehgcjmaaVecB
import Derived.Test.YtpehkfnehgcjmaaSl
import Derived.Lib.Hide
import Derived.Outline
import Derived.WalkSpells
namespace Go.Proofs.Ytpehkfnehgcjmaa
open Go.RowKit
set_option linter.unusedVariables false

def encV (p : Int × Int) : List Value := [.int .i64 p.1, .int .i64 p.2]
theorem encV_len (p : Int × Int) : (encV p).length = 2 := rfl
theorem encV_one (p : Int × Int) : ∀ u ∈ encV p, u.oneCell' = true := by
  intro u hu; simp [encV] at hu; rcases hu with rfl | rfl <;> rfl
theorem infoVec : (Try.prog.info? 23).map (fun i => (i.zero, i.size, i.bytes)) = some (some (.agg #[.int .i64 0, .int .i64 0]), 2, 16) := by kernel_rfl
abbrev IsVecs (w : World) (A : Option Addr) (c : Nat) (l : List (Int × Int)) : Prop := IsRow encV 2 w A c l
abbrev OwnVecs (base : Nat) (w : World) (A : Option Addr) (c : Nat) (l : List (Int × Int)) : Prop := Owns encV 2 base 23 w A c l

theorem RowAt.v0 {w : World} {g off : Nat} {l : List (Int × Int)} (h : RowAt encV 2 w g off l) (i : Nat) (hi : i < l.length) : w.cell? ⟨g, off + i * 2, none⟩ = some (.int .i64 l[i].1) := by
  have := h.cells i hi 0 (.int .i64 l[i].1) rfl; simpa using this
theorem RowAt.v1 {w : World} {g off : Nat} {l : List (Int × Int)} (h : RowAt encV 2 w g off l) (i : Nat) (hi : i < l.length) : w.cell? ⟨g, off + i * 2 + 1, none⟩ = some (.int .i64 l[i].2) :=
  h.cells i hi 1 (.int .i64 l[i].2) rfl

@[go_sem] theorem eql_vecs_nil (w : World) (A : Option Addr) (n c n' c' : Nat) : (binOp .eql 39 (.slice A n c) (.slice none n' c')).run Try.prog w = .ok (.bool A.isNone) w :=
  Lib.run_eql_slice_nil w _ _ A n c n' c' Try.underlying39

theorem clone_any (A : Option Addr) (c : Nat) (l : List (Int × Int)) (w : World) (hl : IsVecs w A c l) (hn : l.length * 16 ≤ 140737488355328) :
    Calls Try.prog 47 #[.slice A l.length c] w fun e w' => ∃ A' c', e = .returned (.slice A' l.length c') ∧ OwnVecs w.heap.size w' A' c' l ∧ SinceOf w w' := by
  obtain ⟨i0, hi, hz0, hz1, hz2⟩ := info_parts infoVec
  cases A with
  | none =>
    obtain rfl : c = 0 := hl.1 rfl
    have hl0 : l = [] := by
      rcases hl.2 with h | ⟨g, off, h, _⟩
      · exact h
      · cases h
    subst hl0
    go_enter Try.func47, Try.ntmps47
    go_wp2_with fail
    go_returns
    exact ⟨none, 0, rfl, Owns.nil _ _ _ _ _, SinceOf.refl _⟩
  | some ad =>
    go_enter Try.func47, Try.ntmps47
    go_wp2_with (at_builtin; refine wpList_append_row rfl (.tmp 5) (.tmp 6) 39 rfl encV_len (by omega) encV_one i0 _ 16 Try.underlying39 hi hz0 hz1 hz2 rfl (l := []) (A := some ⟨w.heap.size, 0, none⟩) (c := 0) (base := w.heap.size) rfl (World.ownsRow_lit w #[] 0 (Nat.le_refl _) (Nat.zero_le _) rfl) (m := l) rfl (hl.of (SinceOf.alloc (SinceOf.refl w) _)) (by unfold maxLen; simp; omega) (by simpa using hn) (by simp) ?_; intro A' c' w' hown hgrow _)
    go_returns
    exact ⟨A', c', rfl, hown, ((SinceOf.refl w).alloc _).grown hgrow (by intro k hk; simp [blockOf] at hk; omega)⟩

end Go.Proofs.Ytpehkfnehgcjmaa
