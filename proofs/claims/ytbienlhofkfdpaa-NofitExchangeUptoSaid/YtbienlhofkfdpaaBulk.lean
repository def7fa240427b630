/- What the bound of an '..UptoSaid' gives: a slice's length. -/
import Derived.Test.YtbienlhofkfdpaaOpenG
import Derived.Deep.CondSized
namespace Go.Proofs.Ytbienlhofkfdpaa
open Go.ChangeShapes Go.WideShapes Go.ChangeAt Go.RowKit Go.Joins
set_option linter.unusedVariables false
theorem bulk_pos {H : Type} (d : DataW H) : 1 ≤ Rows.uptoBulk d := by
  cases d with
  | lit l => cases l <;> simp [Rows.uptoBulk]
  | nil => simp [Rows.uptoBulk]
  | ptr d => simp [Rows.uptoBulk]
  | slice elems spare => simp [Rows.uptoBulk]
  | agg parts => simp [Rows.uptoBulk]
  | iface t d => simp [Rows.uptoBulk]
  | map entries => simp [Rows.uptoBulk]
  | held h => simp [Rows.uptoBulk]
theorem bulk_len {H : Type} : ∀ (l : List (DataW H)), l.length ≤ Rows.uptoBulkAll l
  | [] => Nat.zero_le _
  | d :: r => by
    have h1 := bulk_pos d
    have h2 := bulk_len r
    simp only [Rows.uptoBulkAll, List.length_cons]
    omega
section
variable {H : Type} {enc : TypeId × Value → H} {P : Program} {w : World} {base : Nat} {spare : Nat → Bool} {held : Bool}
theorem slice_bulk {t e : TypeId} {A : Option Addr} {n c : Nat} {d : DataW H} {p : List MemPlace} (ht : P.underlying t = some (.slice e)) (h : DataW.Trod enc P w base spare held t (.slice A n c) d p) : n ≤ Rows.uptoBulk d := by
  obtain ⟨fuel, hf⟩ := h
  rcases Go.Deep.open_slice ht (show DataW.trod enc P w base spare held fuel t [Value.slice A n c] = some (d, p) from hf) with ⟨hcs, hx⟩ | ⟨a, len0, cap0, m, n', D, Pl, hcs, hb, hl, hm, hmm, hx, hi⟩
  · have : n = 0 := by simp at hcs; omega
    omega
  · have hn : n = len0 := by simp at hcs; omega
    have hd : d = (DataW.slice _ _ : DataW H) := congrArg Prod.fst hx
    rw [hd]
    simp only [Rows.uptoBulk]
    have h1 := bulk_len (List.map D (List.range len0))
    simp only [List.length_map, List.length_range] at h1
    first | omega | (rw [hn]; omega)
end
theorem upto_three {H : Type} {a b c : DataW H} (hk : Rows.uptoSmall H [a, b, c] = true) : Rows.uptoBulk a + Rows.uptoBulk b + Rows.uptoBulk c ≤ 1048576 := by
  have h : Rows.uptoBulkAll [a, b, c] ≤ 1048576 := of_decide_eq_true hk
  simp only [Rows.uptoBulkAll] at h
  omega
end Go.Proofs.Ytbienlhofkfdpaa
