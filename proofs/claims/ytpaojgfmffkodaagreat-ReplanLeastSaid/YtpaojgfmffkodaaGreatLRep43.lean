/- Layer 54: the reference's Same and SameState, at equal results and states. -/
import Derived.Test.YtpaojgfmffkodaaGreatLRep25
import Derived.Test.YtpaojgfmffkodaaGreatLCal10
import Derived.Test.YtpaojgfmffkodaaGreatLRep24
namespace Go.Proofs.YtpaojgfmffkodaaGreat
set_option linter.unusedVariables false
set_option linter.unusedSimpArgs false
open Go.RowKit Go.Sort
attribute [local go_sem ↓] Go.wp_at_zero Go.wp_at_succ
set_option maxRecDepth 100000 in
set_option maxHeartbeats 8000000 in
theorem refSameR_any (a b : ResM) (w : World) (ha : IsRes w a) (hb : IsRes w b) (he : a.r = b.r) (h1 : a.r.slots.length < 4611686018427387904) (h2 : a.r.moved.length < 4611686018427387904) (h3 : a.r.left.length < 4611686018427387904) :
    Yields Tryz.prog 24 #[resV a, resV b] w (.bool true) := by
  apply Yields.ret
  obtain ⟨⟨s1, m1, l1⟩, a1, c1, a2, c2, a3, c3⟩ := a
  obtain ⟨⟨s2, m2, l2⟩, b1, e1, b2, e2, b3, e3⟩ := b
  simp only at he h1 h2 h3
  injection he with k1 k2 k3
  subst k1 k2 k3
  have S1 := fun W (hW : SinceOf w W) => refSameS_any a1 b1 c1 e1 s1 W (ha.slots.of hW) (hb.slots.of hW) h1
  have S2 := fun W (hW : SinceOf w W) => refInts54_any a2 b2 c2 e2 m1 W (ha.moved.of hW) (hb.moved.of hW) h2
  have S3 := fun W (hW : SinceOf w W) => refInts54_any a3 b3 c3 e3 l1 W (ha.left.of hW) (hb.left.of hW) h3
  clear ha hb
  go_enter Tryz.func24, Tryz.ntmps24
  go_wp2_with fail
  refine (S1 _ Sx).calls.mono ?_
  rintro e _ ⟨rfl, z1, rfl⟩
  go_wp2_with fail
  refine (S2 _ Sx).calls.mono ?_
  rintro e _ ⟨rfl, z2, rfl⟩
  go_wp2_with fail
  refine (S3 _ Sx).calls.mono ?_
  rintro e _ ⟨rfl, z3, rfl⟩
  go_wp2_with fail
  go_returns
  exact ⟨rfl, Sx⟩
theorem refSameR_at {w : World} (x : ResR) (d1 : Option Addr) (e1 : Nat) (d2 : Option Addr) (e2 : Nat) (d3 : Option Addr) (e3 : Nat) (hs : IsRow encS 4 w d1 e1 x.slots) (hm : IsRow encN 1 w d2 e2 x.moved) (hl : IsRow encN 1 w d3 e3 x.left) (hc : x.slots.length ≤ e1) (hb : x.slots.length < 4611686018427387904 ∧ x.moved.length < 4611686018427387904 ∧ x.left.length < 4611686018427387904) :
    ∀ (r : ResM) W, SinceOf w W → IsRes W r → r.r = x → Yields Tryz.prog 24 #[resV r, .agg #[.slice d1 x.slots.length e1, .slice d2 x.moved.length e2, .slice d3 x.left.length e3]] W (.bool true) := fun r W hW h1 h2 =>
  refSameR_any r ⟨x, d1, e1, d2, e2, d3, e3⟩ W h1 ⟨hs.of hW, hm.of hW, hl.of hW, hc⟩ h2 (h2 ▸ hb.1) (h2 ▸ hb.2.1) (h2 ▸ hb.2.2)
end Go.Proofs.YtpaojgfmffkodaaGreat
