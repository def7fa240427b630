/- Layer 52: shops and jobs in later worlds; Own and Jobs as rows; lengths of small problems. -/
import Derived.Test.YtdcncalcncomoaaSch29
import Derived.Test.YtdcncalcncomoaaSch28
import Derived.Test.YtdcncalcncomoaaSch30
namespace Go.Proofs.Ytdcncalcncomoaa
open Go.RowKit Go.Sort
set_option linter.unusedVariables false
attribute [local go_sem ↓] Go.wp_at_zero Go.wp_at_succ

section
variable {α : Type} {enc : α → List Value} {k : Nat} {w : World} {A : Option Addr} {c : Nat} {l : List α}
theorem IsRow.allocd (h : IsRow enc k w A c l) (o : Obj) : IsRow enc k (w.alloc o) A c l := h.of ((SinceOf.refl _).alloc o)
theorem IsRow.drewd (h : IsRow enc k w A c l) : IsRow enc k w.drew A c l := h.of (SinceOf.refl _).drew
theorem IsRow.drewNd (h : IsRow enc k w A c l) (n : Nat) : IsRow enc k (w.drewN n) A c l := h.of ((SinceOf.refl _).drewN n)
end
theorem jobs52b_any (A : Option Addr) (c : Nat) (L : List JobR) (w : World) (h : IsJobs w A c L) (hll : L.length ≤ 1000000) :
    Calls Try.prog 10 #[.slice A L.length c] w fun e w' => ∃ A' c', e = .returned (.slice A' L.length c') ∧ IsRow encJ 6 w' A' c' L ∧ (∀ b, blockOf A' = some b → w.heap.size ≤ b ∧ b < w'.heap.size) ∧ SinceOf w w' :=
  (jobs_any A c L w h.row hll).mono fun e w' ⟨A', c', he, ho, hs⟩ => ⟨A', c', he, ho.isRow encJ_len, fun b hb => ho.below b hb, hs⟩
theorem own52b_any (s : ShopR) (w : World) (hs : IsShop w s) (hll : s.cals.length ≤ 1000000) :
    Calls Try.prog 9 #[shopV s] w fun e w' => ∃ A' c', e = .returned (shopV (withCals s A' c')) ∧ IsRow encC 3 w' A' c' s.cals ∧ (∀ b, blockOf A' = some b → w.heap.size ≤ b ∧ b < w'.heap.size) ∧ SinceOf w w' :=
  (own52_any s w hs hll).mono fun e w' ⟨A', c', he, ho, hb, hs⟩ => ⟨A', c', he, ho.cals.row, hb, hs⟩
theorem shop_at {w W : World} {s : ShopR} {A : Option Addr} {c : Nat} (hs : IsShop w s) (hr : IsRow encC 3 W A c s.cals) (hW : SinceOf w W) : IsShop W (withCals s A c) := ⟨⟨hr, fun x hx => (hs.cals.all x hx).of hW, hs.cals.len⟩, hs.rows.of hW⟩
theorem jobs_at {w W : World} {L : List JobR} {A B : Option Addr} {c d : Nat} (hs : IsJobs w A c L) (hr : IsRow encJ 6 W B d L) (hW : SinceOf w W) : IsJobs W B d L := ⟨hr, fun x hx => ⟨(hs.all x hx).1.of hW, (hs.all x hx).2⟩, hs.len⟩
theorem sep_symm {a b : Option Nat} (h : a = none ∨ a ≠ b) : b = none ∨ b ≠ a := by
  rcases h with rfl | h
  · cases b <;> simp
  · exact .inr fun e => h e.symm
theorem pair_of {P Q : Prop} (hp : P) (hq : P → Q) : P ∧ Q := ⟨hp, hq hp⟩
theorem few_lens {s : ShopR} {L : List JobR} (h : smallB s L = true) : s.cals.length ≤ 3 ∧ L.length ≤ 8 := by
  unfold smallB fewP at h
  simp only [Bool.and_eq_true, decide_eq_true_eq] at h
  omega
theorem near_len {l : List SlotR} (h : nearL l = true) : l.length ≤ 10 := by
  unfold nearL at h
  simp only [Bool.and_eq_true, decide_eq_true_eq] at h
  omega
end Go.Proofs.Ytdcncalcncomoaa
