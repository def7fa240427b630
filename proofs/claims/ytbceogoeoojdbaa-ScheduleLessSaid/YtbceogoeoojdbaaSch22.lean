/- Layer 52: what 'on' computes. -/
import Derived.Test.YtbceogoeoojdbaaSch21
import Derived.Test.YtbceogoeoojdbaaHeap4

namespace Go.Proofs.Ytbceogoeoojdbaa
open Go.RowKit Go.Sort
set_option linter.unusedVariables false

def insI (x : Int) : List Int → List Int
  | [] => [x]
  | y :: r => if x ≤ y then x :: y :: r else y :: insI x r
def sortI : List Int → List Int
  | [] => []
  | x :: r => insI x (sortI r)
theorem insI_perm (x : Int) : ∀ l, (insI x l).Perm (x :: l)
  | [] => List.Perm.refl _
  | y :: r => by
    unfold insI
    split
    · exact List.Perm.refl _
    · exact ((insI_perm x r).cons y).trans (List.Perm.swap x y r)
theorem sortI_perm : ∀ l, (sortI l).Perm l
  | [] => List.Perm.refl _
  | x :: r => (insI_perm x (sortI r)).trans ((sortI_perm r).cons x)
theorem insI_sorted (x : Int) : ∀ l, l.Pairwise (· ≤ ·) → (insI x l).Pairwise (· ≤ ·)
  | [], _ => by simp [insI]
  | y :: r, h => by
    unfold insI
    obtain ⟨h1, h2⟩ := List.pairwise_cons.1 h
    split
    · rename_i hxy
      refine List.pairwise_cons.2 ⟨fun z hz => ?_, h⟩
      rcases List.mem_cons.1 hz with rfl | hz
      · exact hxy
      · exact Int.le_trans hxy (h1 z hz)
    · rename_i hxy
      refine List.pairwise_cons.2 ⟨fun z hz => ?_, insI_sorted x r h2⟩
      rcases List.mem_cons.1 ((insI_perm x r).subset hz) with rfl | hz
      · omega
      · exact h1 z hz
theorem sortI_sorted : ∀ l, (sortI l).Pairwise (· ≤ ·)
  | [] => by simp [sortI]
  | x :: r => insI_sorted x _ (sortI_sorted r)
theorem drains_sort {L : List (Int × Int)} {l : List Int} (h : (L.map (·.1)).Perm l) : Drains L (sortI l) := ⟨sortI_sorted l, (sortI_perm l).trans h.symm⟩

def nextAt (s : ShopR) (m t : Int) : Int × Int := nextV (calAt s m).P (calAt s m).S (calAt s m).D t
/-- The first of the times at which the job fits; a time without an open time, or an end, ends the search. -/
def firstFit (s : ShopR) (L : List JobR) (l : List SlotR) (jb m : Int) : List Int → Option SlotR
  | [] => none
  | t :: r =>
    if (nextAt s m t).2 = 0 then
      if (finishAt s m (nextAt s m t).1 (jobAt L jb).dur).2 = 0 then
        if (validV s L (l ++ [⟨jb, m, (nextAt s m t).1, (finishAt s m (nextAt s m t).1 (jobAt L jb).dur).1⟩])).2 = 0 then some ⟨jb, m, (nextAt s m t).1, (finishAt s m (nextAt s m t).1 (jobAt L jb).dur).1⟩
        else firstFit s L l jb m r
      else none
    else none
def endsOf (b : Int) (l : List SlotR) : List Int := (l.filter fun y => decide (b < y.stop)).map (·.stop)
def onV (s : ShopR) (L : List JobR) (l : List SlotR) (jb m : Int) : Option SlotR :=
  match beginV s L jb m (jobAt L jb).rel l with
  | none => none
  | some b => firstFit s L l jb m (sortI (b :: endsOf b l))
def slotOpt (o : Option SlotR) : Value := match o with
  | some x => .tuple #[slotV x, .bool true]
  | none => .tuple #[slotV ⟨0, 0, 0, 0⟩, .bool false]
end Go.Proofs.Ytbceogoeoojdbaa
