/- Lists of rings, and rows of rings that a call made (layers 15, 16). -/
import Derived.Test.YtpbgimdbhgahkaaGreatMink8
namespace Go.Proofs.YtpbgimdbhgahkaaGreat
open Go.RowKit Go.Sort
set_option linter.unusedVariables false
set_option linter.unusedSimpArgs false
attribute [local go_sem ↓] Go.wp_at_zero Go.wp_at_succ

/-- A ring in a list of rings. -/
structure RgR where
  A : Option Addr
  c : Nat
  xs : List Pt
def encG (x : RgR) : List Value := [.slice x.A x.xs.length x.c]
theorem encG_len (x : RgR) : (encG x).length = 1 := rfl
theorem encG_one (x : RgR) : ∀ u ∈ encG x, u.oneCell' = true := by
  intro u hu
  simp only [encG, List.mem_cons, List.not_mem_nil, or_false] at hu
  subst hu
  rfl
/-- A ring of a list lies there. -/
structure IsRing (w : World) (x : RgR) : Prop where
  row : IsVecs w x.A x.c x.xs
  len : x.xs.length < 4611686018427387904
  cap : x.xs.length ≤ x.c
theorem IsRing.of {w w' : World} {x : RgR} (h : IsRing w x) (hs : SinceOf w w') : IsRing w' x := ⟨h.row.of hs, h.len, h.cap⟩
structure IsRings (w : World) (A : Option Addr) (c : Nat) (X : List RgR) : Prop where
  row : IsRow encG 1 w A c X
  all : ∀ x ∈ X, IsRing w x
  len : X.length < 4611686018427387904
theorem IsRings.of {w w' : World} {A : Option Addr} {c : Nat} {X : List RgR} (h : IsRings w A c X) (hs : SinceOf w w') : IsRings w' A c X := ⟨h.row.of hs, fun x hx => (h.all x hx).of hs, h.len⟩
theorem RowAt.g0 {w : World} {g off : Nat} {l : List RgR} (h : RowAt encG 1 w g off l) (i : Nat) (hi : i < l.length) : w.cell? ⟨g, off + i, none⟩ = some (.slice l[i].A l[i].xs.length l[i].c) := by
  have := h.cells i hi 0 _ rfl
  simpa using this
/-- The vertices of the rings of a list. -/
def vxs (X : List RgR) : List (List Pt) := X.map RgR.xs
theorem vxs_len (X : List RgR) : (vxs X).length = X.length := List.length_map _
theorem infoRing : (Tryz.prog.info? 41).map (fun i => (i.zero, i.size, i.bytes)) = some (some (.slice none 0 0), 1, 24) := by kernel_rfl
/-- A row of rings that the call made; the rings lie elsewhere. -/
structure OwnRings (base : Nat) (w : World) (A : Option Addr) (c : Nat) (Y : List RgR) : Prop where
  own : Owns encG 1 base 41 w A c Y
  all : ∀ y ∈ Y, IsRing w y ∧ ∀ b, blockOf y.A = some b → b < w.heap.size ∧ blockOf A ≠ some b
theorem OwnRings.nil (base : Nat) (w : World) : OwnRings base w none 0 [] := ⟨Owns.nil _ _ _ _ _, fun y hy => by cases hy⟩
theorem OwnRings.of {base : Nat} {w w' : World} {A : Option Addr} {c : Nat} {Y : List RgR} (h : OwnRings base w A c Y) (hs : SinceOf w w') : OwnRings base w' A c Y :=
  ⟨h.own.of hs, fun y hy => ⟨(h.all y hy).1.of hs, fun b hb => ⟨Nat.lt_of_lt_of_le ((h.all y hy).2 b hb).1 hs.size, ((h.all y hy).2 b hb).2⟩⟩⟩
theorem IsRow.kept {α : Type} {enc : α → List Value} {k : Nat} {w w' : World} {A : Option Addr} {c : Nat} {l : List α} {row : Option Nat} (h : IsRow enc k w A c l) (hg : w.grownBy w' row) (hne : ∀ b, blockOf A = some b → row ≠ some b) : IsRow enc k w' A c l := by
  refine ⟨h.1, ?_⟩
  rcases h.2 with e | ⟨g, off, e, hr⟩
  · exact .inl e
  · exact .inr ⟨g, off, e, hr.grown hg (fun q => hne g (by rw [e]; rfl) q.symm)⟩
theorem IsRow.block_lt {α : Type} {enc : α → List Value} {k : Nat} {w : World} {A : Option Addr} {c : Nat} {l : List α} (h : IsRow enc k w A c l) (h0 : 0 < l.length) {b : Nat} (hb : blockOf A = some b) : b < w.heap.size := by
  obtain ⟨g, off, rfl, hr⟩ := h.at_ h0
  injection hb with hb
  subst hb
  exact hr.there.elim fun q => q.lt
theorem IsRing.kept {w w' : World} {x : RgR} {row : Option Nat} (h : IsRing w x) (hg : w.grownBy w' row) (hne : ∀ b, blockOf x.A = some b → row ≠ some b) : IsRing w' x := ⟨h.row.kept hg hne, h.len, h.cap⟩
theorem OwnRings.push {base : Nat} {w w' : World} {A A' : Option Addr} {c c' : Nat} {Y : List RgR} {x : RgR} (h : OwnRings base w A c Y) (hx : IsRing w x) (hne : ∀ b, blockOf x.A = some b → b < w.heap.size ∧ blockOf A ≠ some b)
    (ho : Owns encG 1 base 41 w' A' c' (Y ++ [x])) (hg : w.grownBy w' (blockOf A)) (hb : blockOf A' = blockOf A ∨ blockOf A' = some w.heap.size) : OwnRings base w' A' c' (Y ++ [x]) := by
  have one : ∀ y : RgR, IsRing w y → (∀ b, blockOf y.A = some b → b < w.heap.size ∧ blockOf A ≠ some b) → IsRing w' y ∧ ∀ b, blockOf y.A = some b → b < w'.heap.size ∧ blockOf A' ≠ some b := fun y hy hyn =>
    ⟨hy.kept hg (fun b hyb => (hyn b hyb).2), fun b hyb => ⟨Nat.lt_of_lt_of_le (hyn b hyb).1 hg.size, fun e => by
      rcases hb with q | q
      · exact (hyn b hyb).2 (q ▸ e)
      · rw [q] at e
        injection e with e
        have := (hyn b hyb).1
        omega⟩⟩
  refine ⟨ho, fun y hy => ?_⟩
  rcases List.mem_append.1 hy with hy | hy
  · obtain ⟨a, b⟩ := h.all y hy
    exact one y a b
  · obtain rfl : y = x := by simpa using hy
    exact one y hx hne
theorem OwnRings.rings {base : Nat} {w : World} {A : Option Addr} {c : Nat} {Y : List RgR} (h : OwnRings base w A c Y) (hl : Y.length < 4611686018427387904) : IsRings w A c Y := ⟨h.own.isRow encG_len, fun y hy => (h.all y hy).1, hl⟩
theorem IsRings.nil (w : World) : IsRings w none 0 [] := ⟨IsRow.nil _ _ _, (fun y hy => by cases hy), by decide⟩
theorem isRow_atG (W : World) (g : Nat) (x : RgR) (hg : W.heap.size = g) : IsRow encG 1 (W.alloc (.cells #[.slice x.A x.xs.length x.c] 41)) (some ⟨g, 0, none⟩) 1 [x] := by
  subst hg
  have h : Owns encG 1 W.heap.size 41 (W.alloc (.cells #[.slice x.A x.xs.length x.c] 41)) (some ⟨W.heap.size, 0, none⟩) 1 [x] := World.ownsRow_lit W _ 1 (Nat.le_refl _) (by decide) rfl
  exact h.isRow encG_len
end Go.Proofs.YtpbgimdbhgahkaaGreat
