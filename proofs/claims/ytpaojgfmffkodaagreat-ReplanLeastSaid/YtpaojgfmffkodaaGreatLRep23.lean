/- Layer 54: the reference's event, a machine is closed. -/
import Derived.Test.YtpaojgfmffkodaaGreatLRep15
import Derived.Test.YtpaojgfmffkodaaGreatLRep25
import Derived.Test.YtpaojgfmffkodaaGreatLCal10
import Derived.Test.YtpaojgfmffkodaaGreatLRep24
import Derived.Test.YtpaojgfmffkodaaGreatLSl
namespace Go.Proofs.YtpaojgfmffkodaaGreat
set_option linter.unusedVariables false
set_option linter.unusedSimpArgs false
open Go.RowKit Go.Sort
attribute [local go_sem ↓] Go.wp_at_zero Go.wp_at_succ
theorem IsRow.moved {α : Type} {enc : α → List Value} {k : Nat} {w w' : World} {A : Option Addr} {c : Nat} {l : List α} (h : IsRow enc k w A c l) (hb : ∀ b, blockOf A = some b → b < w.heap.size → w'.heap[b]? = w.heap[b]?) (hs : w.heap.size ≤ w'.heap.size) : IsRow enc k w' A c l := by
  refine ⟨h.1, ?_⟩
  rcases h.2 with h2 | ⟨g, off, rfl, h2⟩
  · exact .inl h2
  · have hlt : g < w.heap.size := h2.there.elim fun t => t.lt
    have e := hb g rfl hlt
    refine .inr ⟨g, off, rfl, fun i hi j u hu => ?_, ⟨⟨Nat.lt_of_lt_of_le hlt hs⟩⟩⟩
    have := h2.cells i hi j u hu
    unfold World.cell? at this ⊢
    rw [show w'.heap[(⟨g, off + i * k + j, none⟩ : Addr).block]? = w.heap[g]? from e]
    exact this
end Go.Proofs.YtpaojgfmffkodaaGreat
/- Layer 54: the reference's event, a job is dropped. -/
namespace Go.Proofs.YtpaojgfmffkodaaGreat
set_option linter.unusedVariables false
set_option linter.unusedSimpArgs false
open Go.RowKit Go.Sort
attribute [local go_sem ↓] Go.wp_at_zero Go.wp_at_succ
end Go.Proofs.YtpaojgfmffkodaaGreat
/- Layer 54: the reference's event, a job is repeated. -/
namespace Go.Proofs.YtpaojgfmffkodaaGreat
set_option linter.unusedVariables false
set_option linter.unusedSimpArgs false
open Go.RowKit Go.Sort
attribute [local go_sem ↓] Go.wp_at_zero Go.wp_at_succ
end Go.Proofs.YtpaojgfmffkodaaGreat
/- Layer 54: the reference's event. -/
namespace Go.Proofs.YtpaojgfmffkodaaGreat
set_option linter.unusedVariables false
set_option linter.unusedSimpArgs false
open Go.RowKit Go.Sort
attribute [local go_sem ↓] Go.wp_at_zero Go.wp_at_succ
end Go.Proofs.YtpaojgfmffkodaaGreat
