/- Layer 52 (the reference): has, ready, follows. -/
import Derived.Test.YtpaojgfmffkodaaGreatVSchP2
import Derived.Test.YtpaojgfmffkodaaGreatVSch28
import Derived.Test.YtpaojgfmffkodaaGreatVSch32
import Derived.Deep.RegionLaw
import Derived.Deep.CutBlock
import Derived.Deep.RegionHeld3
namespace Go.Proofs.YtpaojgfmffkodaaGreat
set_option linter.unusedVariables false
set_option linter.unusedSimpArgs false
open Go.RowKit Go.Sort
attribute [local go_sem ↓] Go.wp_at_zero Go.wp_at_succ

end Go.Proofs.YtpaojgfmffkodaaGreat
/- Layer 52 (the reference): fits. -/
namespace Go.Proofs.YtpaojgfmffkodaaGreat
set_option linter.unusedVariables false
set_option linter.unusedSimpArgs false
open Go.RowKit Go.Sort
attribute [local go_sem ↓] Go.wp_at_zero Go.wp_at_succ

end Go.Proofs.YtpaojgfmffkodaaGreat
/- Layer 52 (the reference): open. -/
namespace Go.Proofs.YtpaojgfmffkodaaGreat
set_option linter.unusedVariables false
set_option linter.unusedSimpArgs false
open Go.RowKit Go.Sort
attribute [local go_sem ↓] Go.wp_at_zero Go.wp_at_succ

end Go.Proofs.YtpaojgfmffkodaaGreat
/- Layer 52 (the reference): Valid. -/
namespace Go.Proofs.YtpaojgfmffkodaaGreat
set_option linter.unusedVariables false
set_option linter.unusedSimpArgs false
open Go.RowKit Go.Sort
attribute [local go_sem ↓] Go.wp_at_zero Go.wp_at_succ

end Go.Proofs.YtpaojgfmffkodaaGreat
/- Layer 52 (the reference): Candidates. -/
namespace Go.Proofs.YtpaojgfmffkodaaGreat
set_option linter.unusedVariables false
set_option linter.unusedSimpArgs false
open Go.RowKit Go.Sort
attribute [local go_sem ↓] Go.wp_at_zero Go.wp_at_succ

end Go.Proofs.YtpaojgfmffkodaaGreat
/- Layer 52 (the reference): dispatch. -/
namespace Go.Proofs.YtpaojgfmffkodaaGreat
set_option linter.unusedVariables false
set_option linter.unusedSimpArgs false
open Go.RowKit Go.Sort
attribute [local go_sem ↓] Go.wp_at_zero Go.wp_at_succ

theorem cell_since {w w' : World} (h : SinceOf w w') {g i : Nat} {u : Value} [Nonempty (Old w g)] (hc : w.cell? ⟨g, i, none⟩ = some u) : w'.cell? ⟨g, i, none⟩ = some u := by
  obtain ⟨y, rfl⟩ := h
  rw [Since.cell]
  exact hc
theorem oldS_since {w w' : World} (h : SinceOf w w') {g : Nat} (ho : Nonempty (Old w g)) : Nonempty (Old w' g) := by
  obtain ⟨y, rfl⟩ := h
  infer_instance
end Go.Proofs.YtpaojgfmffkodaaGreat
/- Layer 52: Dispatch, the program's and the reference's. -/
namespace Go.Proofs.YtpaojgfmffkodaaGreat
set_option linter.unusedVariables false
set_option linter.unusedSimpArgs false
open Go.RowKit Go.Sort
attribute [local go_sem ↓] Go.wp_at_zero Go.wp_at_succ

/-- What Dispatch returns: a slot, whether there is one, an error. -/
def dispR (s : ShopR) (L : List JobR) (l : List SlotR) (j : Int) : SlotR × Bool × Int :=
  if (validT s L l).2 = 0 then (if askedE L l j = 0 then (slotOr (dispatchV s L l j), (dispatchV s L l j).isSome, 0) else (⟨0, 0, 0, 0⟩, false, askedE L l j)) else (⟨0, 0, 0, 0⟩, false, (validT s L l).2)
def dispTup (x : SlotR × Bool × Int) : Value := .tuple #[slotV x.1, .bool x.2.1, .int .i64 x.2.2]
theorem slotOpt_eq (o : Option SlotR) : slotOpt o = .tuple #[slotV (slotOr o), .bool o.isSome] := by cases o <;> rfl
set_option maxHeartbeats 2000000 in
theorem progDispatch_any (s : ShopR) (A : Option Addr) (c : Nat) (L : List JobR) (B : Option Addr) (d : Nat) (l : List SlotR) (j : Int) (w : World) (hs : IsShop w s) (h : IsJobs w A c L) (hl : IsSlots w B d l) (hll : l.length < 1073741824) (hcap : l.length ≤ d) :
    Yields Tryz.prog 54 #[shopV s, .slice A L.length c, .slice B l.length d, .int .i64 j] w (dispTup (dispR s L l j)) := by
  apply Yields.ret
  have VA := fun W hW => valid52_any s A c L B d l W (hs.of hW) (h.of hW) (hl.of hW) (by omega) hcap
  have AK := fun W hW => asked_any A c L B d l j W h.len (hl.of hW) (by omega)
  have DI := fun (hc : checkS s L = true) (hg : GoodS s L l) (jb : Nat) (hjb : jb < L.length) W hW => dispatch_any s A c L B d l jb W (hs.of hW) (h.of hW) (check_good hc) (any_orders hc) (check_machs hc) (hl.of hW) hll (good_named hg) hjb
  unfold dispR
  by_cases hv : (validT s L l).2 = 0
  · rw [if_pos hv]
    by_cases ha : askedE L l j = 0
    · rw [if_pos ha]
      obtain ⟨hc, hg⟩ := validT_zero.1 hv
      obtain ⟨hj0, hj1⟩ := asked_in ha
      obtain ⟨jb, rfl⟩ : ∃ q : Nat, j = q := ⟨j.toNat, by omega⟩
      have DJ := DI hc hg jb (by omega)
      rw [slotOpt_eq] at DJ
      generalize dispatchV s L l jb = o at *
      generalize slotOr o = x at *
      generalize o.isSome = b at *
      rw [hv] at VA
      rw [ha] at AK
      generalize (validT s L l).1 = v1 at *
      obtain ⟨x0, y0, x2, x3⟩ := x
      obtain ⟨sA, sc, cals, sB, sd, R, most⟩ := s
      clear hs h hl hc hg DI hv ha hj0 hj1
      go_enter Tryz.func54, Tryz.ntmps54
      go_wp2_with fail
      refine (VA _ Sx).calls.mono ?_
      rintro e _ ⟨rfl, z1, rfl⟩
      go_wp2_with fail
      refine (AK _ Sx).calls.mono ?_
      rintro e _ ⟨rfl, z2, rfl⟩
      go_wp2_with fail
      (with_reducible refine (DJ _ Sx).calls.mono ?_)
      rintro e _ ⟨rfl, z3, rfl⟩
      go_wp2_with fail
      go_returns
      exact ⟨rfl, Sx⟩
    · rw [if_neg ha]
      rw [hv] at VA
      have ha' : (askedE L l j != 0) = true := by simpa using ha
      generalize (validT s L l).1 = v1 at *
      generalize askedE L l j = ae at *
      obtain ⟨sA, sc, cals, sB, sd, R, most⟩ := s
      clear hs h hl DI hv ha
      go_enter Tryz.func54, Tryz.ntmps54
      go_wp2_with fail
      refine (VA _ Sx).calls.mono ?_
      rintro e _ ⟨rfl, z1, rfl⟩
      go_wp2_with fail
      refine (AK _ Sx).calls.mono ?_
      rintro e _ ⟨rfl, z2, rfl⟩
      go_wp2_with fail
      go_returns
      exact ⟨rfl, Sx⟩
  · rw [if_neg hv]
    have hv' : ((validT s L l).2 != 0) = true := by simpa using hv
    generalize validT s L l = vt at *
    obtain ⟨v1, v2⟩ := vt
    simp only at hv' VA
    obtain ⟨sA, sc, cals, sB, sd, R, most⟩ := s
    clear hs h hl DI hv AK
    go_enter Tryz.func54, Tryz.ntmps54
    go_wp2_with fail
    refine (VA _ Sx).calls.mono ?_
    rintro e _ ⟨rfl, z1, rfl⟩
    go_wp2_with fail
    go_returns
    exact ⟨rfl, Sx⟩
end Go.Proofs.YtpaojgfmffkodaaGreat
