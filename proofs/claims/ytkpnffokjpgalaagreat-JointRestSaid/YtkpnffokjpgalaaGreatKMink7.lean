/- Layer 15: Where and Place. -/
import Derived.Test.YtkpnffokjpgalaaGreatKMink1
import Derived.Test.YtkpnffokjpgalaaGreatKMink4
import Derived.Test.YtkpnffokjpgalaaGreatKMinkP4
import Derived.Test.YtkpnffokjpgalaaGreatKSame
import Derived.Deep.AppendLies
namespace Go.Proofs.YtkpnffokjpgalaaGreat
set_option linter.unusedVariables false
set_option linter.unusedSimpArgs false
open Go.RowKit Go.Sort
attribute [local go_sem ↓] Go.wp_at_zero Go.wp_at_succ

def turnP (a b c : Pt) : Int := turnI a.1 a.2 b.1 b.2 c.1 c.2
def placeL (r : List Pt) (p : Pt) : List Nat → Int → Int
  | [], out => out
  | i :: l, out => if turnP (at0 r i) (rv r (i + 1)) p = -1 then 0 else placeL r p l (if turnP (at0 r i) (rv r (i + 1)) p = 0 then 1 else out)
def placeV (r : List Pt) (p : Pt) : Int := placeL r p (List.range' 0 r.length) 2
def whereM (r : List Pt) (p : Pt) : Int := if validB r && inV p then placeV r p else 0
theorem range_step {n i : Nat} (h : i < n) : List.range' i (n - i) = i :: List.range' (i + 1) (n - (i + 1)) := by
  obtain ⟨m, hm⟩ : ∃ m, n - i = m + 1 := ⟨n - i - 1, by omega⟩
  rw [hm, show n - (i + 1) = m by omega]
  rfl
theorem turnP_range (a b c : Pt) : -1 ≤ turnP a b c ∧ turnP a b c ≤ 1 := turn_range _ _ _ _ _ _
theorem placeL_zero {r : List Pt} {p : Pt} : ∀ (l : List Nat) (out : Int), out ≠ 0 → (placeL r p l out = 0 ↔ ∃ i ∈ l, turnP (at0 r i) (rv r (i + 1)) p = -1)
  | [], out, h => by simp [placeL, h]
  | i :: l, out, h => by
    unfold placeL
    split
    · rename_i h1
      exact ⟨fun _ => ⟨i, by simp, h1⟩, fun _ => rfl⟩
    · rename_i h1
      rw [placeL_zero l _ (by split <;> omega)]
      constructor
      · rintro ⟨j, hj, h2⟩
        exact ⟨j, List.mem_cons_of_mem _ hj, h2⟩
      · rintro ⟨j, hj, h2⟩
        rcases List.mem_cons.1 hj with rfl | hj
        · exact absurd h2 h1
        · exact ⟨j, hj, h2⟩
theorem placeL_one {r : List Pt} {p : Pt} : ∀ (l : List Nat), placeL r p l 1 ≠ 2
  | [] => by unfold placeL; omega
  | i :: l => by
    unfold placeL
    split
    · omega
    · split <;> exact placeL_one l
theorem placeL_two {r : List Pt} {p : Pt} : ∀ (l : List Nat), placeL r p l 2 = 2 ↔ ∀ i ∈ l, turnP (at0 r i) (rv r (i + 1)) p = 1
  | [] => by simp [placeL]
  | i :: l => by
    unfold placeL
    have ht := turnP_range (at0 r i) (rv r (i + 1)) p
    split
    · rename_i h1
      constructor
      · intro h; omega
      · intro h; have := h i (by simp); omega
    · split
      · rename_i h1 h2
        constructor
        · intro h; exact absurd h (placeL_one l)
        · intro h; have := h i (by simp); omega
      · rename_i h1 h2
        rw [placeL_two l]
        constructor
        · intro h j hj
          rcases List.mem_cons.1 hj with rfl | hj
          · omega
          · exact h j hj
        · intro h j hj
          exact h j (List.mem_cons_of_mem _ hj)
theorem place_in {m : Int} (hm : m ≤ 100000) {r : List Pt} {p : Pt} (hr : ∀ q ∈ r, near m q) (hp : near m p) : placeV r p = 2 ↔ ∀ i, i < r.length → 0 < det (at0 r i) (rv r (i + 1)) p := by
  unfold placeV
  rw [placeL_two]
  have key : ∀ i, i < r.length → (turnP (at0 r i) (rv r (i + 1)) p = 1 ↔ 0 < det (at0 r i) (rv r (i + 1)) p) := fun i hi => by
    have e : turnP (at0 r i) (rv r (i + 1)) p = cmpi (det (at0 r i) (rv r (i + 1)) p) 0 := turn_near hm (hr _ (at0_mem hi)) (hr _ (rv_mem (by omega))) hp
    have h1 := turnP_range (at0 r i) (rv r (i + 1)) p
    have h2 := cmpi_pos (det (at0 r i) (rv r (i + 1)) p)
    omega
  constructor
  · intro h i hi
    exact (key i hi).1 (h i (by rw [List.mem_range'_1]; omega))
  · intro h i hi
    have hi' : i < r.length := by rw [List.mem_range'_1] at hi; omega
    exact (key i hi').2 (h i hi')
theorem place_out {m : Int} (hm : m ≤ 100000) {r : List Pt} {p : Pt} (hr : ∀ q ∈ r, near m q) (hp : near m p) : placeV r p ≠ 0 ↔ ∀ i, i < r.length → 0 ≤ det (at0 r i) (rv r (i + 1)) p := by
  unfold placeV
  rw [Ne, placeL_zero _ _ (by omega)]
  have key : ∀ i, i < r.length → (turnP (at0 r i) (rv r (i + 1)) p = -1 ↔ det (at0 r i) (rv r (i + 1)) p < 0) := fun i hi => by
    have e : turnP (at0 r i) (rv r (i + 1)) p = cmpi (det (at0 r i) (rv r (i + 1)) p) 0 := turn_near hm (hr _ (at0_mem hi)) (hr _ (rv_mem (by omega))) hp
    have h1 := turnP_range (at0 r i) (rv r (i + 1)) p
    have h2 := cmpi_lt (det (at0 r i) (rv r (i + 1)) p)
    omega
  constructor
  · intro h i hi
    rcases Int.lt_or_le (det (at0 r i) (rv r (i + 1)) p) 0 with q | q
    · exact absurd ⟨i, by rw [List.mem_range'_1]; omega, (key i hi).2 q⟩ h
    · exact q
  · rintro h ⟨i, hi, h2⟩
    have hi' : i < r.length := by rw [List.mem_range'_1] at hi; omega
    have := h i hi'
    have := (key i hi').1 h2
    omega
end Go.Proofs.YtkpnffokjpgalaaGreat
/- Layer 15: Box, floor, Row of the program. -/
namespace Go.Proofs.YtkpnffokjpgalaaGreat
set_option linter.unusedVariables false
set_option linter.unusedSimpArgs false
open Go.RowKit Go.Sort
attribute [local go_sem ↓] Go.wp_at_zero Go.wp_at_succ

def boxV (r : List Pt) : Int × Int × Int × Int := if validB r then boxOf r else (0, 0, 0, 0)
theorem floor_eq {a b : Int} (hb : 0 < b) : -((-a + b - 1) / b) = a / b := by
  have h1 := Int.emod_nonneg a (show b ≠ 0 by omega)
  have h2 := Int.emod_lt_of_pos a hb
  have h3 := Int.mul_ediv_add_emod a b
  have : (-a + b - 1) / b = -(a / b) := by
    have e : -a + b - 1 = (b - 1 - a % b) + b * (-(a / b)) := by rw [Int.mul_neg]; omega
    rw [e, Int.add_mul_ediv_left _ _ (by omega), Int.ediv_eq_zero_of_lt (by omega) (by omega), Int.zero_add]
  omega
theorem floor_bd {a b : Int} (ha : -1000000000 ≤ a ∧ a ≤ 1000000000) (hb : 1 ≤ b) : -1000000000 ≤ a / b ∧ a / b ≤ 1000000000 := by
  constructor
  · refine (Int.le_ediv_iff_mul_le (by omega)).2 ?_
    have := Int.mul_le_mul_of_nonneg_left hb (show (0 : Int) ≤ 1000000000 by omega)
    omega
  · rcases Int.le_total 0 a with h | h
    · have := Int.ediv_le_self b h
      omega
    · have h2 : a / b ≤ 0 := by
        have := Int.ediv_le_ediv (show 0 < b by omega) h
        rw [Int.zero_ediv] at this
        exact this
      omega
end Go.Proofs.YtkpnffokjpgalaaGreat
/- Layer 15: Row of the reference, Same, Few. -/
namespace Go.Proofs.YtkpnffokjpgalaaGreat
set_option linter.unusedVariables false
set_option linter.unusedSimpArgs false
open Go.RowKit Go.Sort
attribute [local go_sem ↓] Go.wp_at_zero Go.wp_at_succ

/-- What the reference's row has found ahead of x. -/
def rowSt (L H x : Int) : Int × Int × Bool := if L ≤ H ∧ L < x then (L, min (x - 1) H, true) else (0, 0, false)
theorem rowSt_out {L H x : Int} (h : ¬ (L ≤ x ∧ x ≤ H)) : rowSt L H (x + 1) = rowSt L H x := by
  unfold rowSt
  by_cases c : L ≤ H ∧ L < x
  · rw [if_pos c, if_pos (by omega)]
    refine Prod.ext rfl (Prod.ext ?_ rfl)
    simp only
    omega
  · rw [if_neg c, if_neg (by omega)]
theorem rowSt_first {L H x : Int} (h : L ≤ x ∧ x ≤ H) (h2 : (rowSt L H x).2.2 = false) : rowSt L H (x + 1) = (x, x, true) := by
  unfold rowSt at *
  by_cases c : L ≤ H ∧ L < x
  · rw [if_pos c] at h2; cases h2
  · rw [if_pos (by omega)]
    refine Prod.ext ?_ (Prod.ext ?_ rfl)
    · simp only; omega
    · simp only; omega
theorem rowSt_next {L H x : Int} (h : L ≤ x ∧ x ≤ H) (h2 : (rowSt L H x).2.2 = true) : rowSt L H (x + 1) = ((rowSt L H x).1, x, true) := by
  unfold rowSt at *
  by_cases c : L ≤ H ∧ L < x
  · rw [if_pos c, if_pos (by omega)]
    refine Prod.ext rfl (Prod.ext ?_ rfl)
    simp only
    omega
  · rw [if_neg c] at h2; cases h2

end Go.Proofs.YtkpnffokjpgalaaGreat
/- Layer 15: the directions of a ring. -/
namespace Go.Proofs.YtkpnffokjpgalaaGreat
set_option linter.unusedVariables false
set_option linter.unusedSimpArgs false
open Go.RowKit Go.Sort
attribute [local go_sem ↓] Go.wp_at_zero Go.wp_at_succ

theorem isRow_atV (W : World) (g : Nat) (x y : Int) (hg : W.heap.size = g) : IsVecs (W.alloc (.cells #[.int .i64 x, .int .i64 y] 25)) (some ⟨g, 0, none⟩) 1 [(x, y)] := by
  subst hg; exact ⟨(by intro h; cases h), .inr ⟨_, 0, rfl, row_one W x y⟩⟩
/-- The first k edges of a ring. -/
def dirsK (r : List Pt) (k : Nat) : List Pt := (List.range k).map (edgeV r)
theorem dirsK_len (r : List Pt) (k : Nat) : (dirsK r k).length = k := by unfold dirsK; simp
theorem dirsK_succ (r : List Pt) (k : Nat) : dirsK r (k + 1) = dirsK r k ++ [edgeV r k] := by unfold dirsK; rw [List.range_succ, List.map_append]; rfl
end Go.Proofs.YtkpnffokjpgalaaGreat
/- Lists of rings, and rows of rings that a call made (layers 15, 16). -/
namespace Go.Proofs.YtkpnffokjpgalaaGreat
set_option linter.unusedVariables false
set_option linter.unusedSimpArgs false
open Go.RowKit Go.Sort
attribute [local go_sem ↓] Go.wp_at_zero Go.wp_at_succ

/-- A ring in a list of rings. -/
structure RgR where
  A : Option Addr
  c : Nat
  xs : List Pt
def encG (x : RgR) : List Value := [.slice x.A x.xs.length x.c]
theorem encG_len (x : RgR) : (encG x).length = 1 := rfl
theorem encG_one (x : RgR) : ∀ u ∈ encG x, u.oneCell' = true := by
  intro u hu
  simp only [encG, List.mem_cons, List.not_mem_nil, or_false] at hu
  subst hu
  rfl
/-- A ring of a list lies there. -/
structure IsRing (w : World) (x : RgR) : Prop where
  row : IsVecs w x.A x.c x.xs
  len : x.xs.length < 4611686018427387904
  cap : x.xs.length ≤ x.c
theorem IsRing.of {w w' : World} {x : RgR} (h : IsRing w x) (hs : SinceOf w w') : IsRing w' x := ⟨h.row.of hs, h.len, h.cap⟩
structure IsRings (w : World) (A : Option Addr) (c : Nat) (X : List RgR) : Prop where
  row : IsRow encG 1 w A c X
  all : ∀ x ∈ X, IsRing w x
  len : X.length < 4611686018427387904
theorem IsRings.of {w w' : World} {A : Option Addr} {c : Nat} {X : List RgR} (h : IsRings w A c X) (hs : SinceOf w w') : IsRings w' A c X := ⟨h.row.of hs, fun x hx => (h.all x hx).of hs, h.len⟩
theorem RowAt.g0 {w : World} {g off : Nat} {l : List RgR} (h : RowAt encG 1 w g off l) (i : Nat) (hi : i < l.length) : w.cell? ⟨g, off + i, none⟩ = some (.slice l[i].A l[i].xs.length l[i].c) := by
  have := h.cells i hi 0 _ rfl
  simpa using this
/-- The vertices of the rings of a list. -/
def vxs (X : List RgR) : List (List Pt) := X.map RgR.xs
theorem vxs_len (X : List RgR) : (vxs X).length = X.length := List.length_map _
theorem infoRing : (Tryz.prog.info? 23).map (fun i => (i.zero, i.size, i.bytes)) = some (some (.slice none 0 0), 1, 24) := by kernel_rfl
/-- A row of rings that the call made; the rings lie elsewhere. -/
structure OwnRings (base : Nat) (w : World) (A : Option Addr) (c : Nat) (Y : List RgR) : Prop where
  own : Owns encG 1 base 23 w A c Y
  all : ∀ y ∈ Y, IsRing w y ∧ ∀ b, blockOf y.A = some b → b < w.heap.size ∧ blockOf A ≠ some b
theorem OwnRings.nil (base : Nat) (w : World) : OwnRings base w none 0 [] := ⟨Owns.nil _ _ _ _ _, fun y hy => by cases hy⟩
theorem OwnRings.of {base : Nat} {w w' : World} {A : Option Addr} {c : Nat} {Y : List RgR} (h : OwnRings base w A c Y) (hs : SinceOf w w') : OwnRings base w' A c Y :=
  ⟨h.own.of hs, fun y hy => ⟨(h.all y hy).1.of hs, fun b hb => ⟨Nat.lt_of_lt_of_le ((h.all y hy).2 b hb).1 hs.size, ((h.all y hy).2 b hb).2⟩⟩⟩
theorem IsRow.kept {α : Type} {enc : α → List Value} {k : Nat} {w w' : World} {A : Option Addr} {c : Nat} {l : List α} {row : Option Nat} (h : IsRow enc k w A c l) (hg : w.grownBy w' row) (hne : ∀ b, blockOf A = some b → row ≠ some b) : IsRow enc k w' A c l := by
  refine ⟨h.1, ?_⟩
  rcases h.2 with e | ⟨g, off, e, hr⟩
  · exact .inl e
  · exact .inr ⟨g, off, e, hr.grown hg (fun q => hne g (by rw [e]; rfl) q.symm)⟩
theorem IsRow.block_lt {α : Type} {enc : α → List Value} {k : Nat} {w : World} {A : Option Addr} {c : Nat} {l : List α} (h : IsRow enc k w A c l) (h0 : 0 < l.length) {b : Nat} (hb : blockOf A = some b) : b < w.heap.size := by
  obtain ⟨g, off, rfl, hr⟩ := h.at_ h0
  injection hb with hb
  subst hb
  exact hr.there.elim fun q => q.lt
theorem IsRing.kept {w w' : World} {x : RgR} {row : Option Nat} (h : IsRing w x) (hg : w.grownBy w' row) (hne : ∀ b, blockOf x.A = some b → row ≠ some b) : IsRing w' x := ⟨h.row.kept hg hne, h.len, h.cap⟩
theorem OwnRings.push {base : Nat} {w w' : World} {A A' : Option Addr} {c c' : Nat} {Y : List RgR} {x : RgR} (h : OwnRings base w A c Y) (hx : IsRing w x) (hne : ∀ b, blockOf x.A = some b → b < w.heap.size ∧ blockOf A ≠ some b)
    (ho : Owns encG 1 base 23 w' A' c' (Y ++ [x])) (hg : w.grownBy w' (blockOf A)) (hb : blockOf A' = blockOf A ∨ blockOf A' = some w.heap.size) : OwnRings base w' A' c' (Y ++ [x]) := by
  have one : ∀ y : RgR, IsRing w y → (∀ b, blockOf y.A = some b → b < w.heap.size ∧ blockOf A ≠ some b) → IsRing w' y ∧ ∀ b, blockOf y.A = some b → b < w'.heap.size ∧ blockOf A' ≠ some b := fun y hy hyn =>
    ⟨hy.kept hg (fun b hyb => (hyn b hyb).2), fun b hyb => ⟨Nat.lt_of_lt_of_le (hyn b hyb).1 hg.size, fun e => by
      rcases hb with q | q
      · exact (hyn b hyb).2 (q ▸ e)
      · rw [q] at e
        injection e with e
        have := (hyn b hyb).1
        omega⟩⟩
  refine ⟨ho, fun y hy => ?_⟩
  rcases List.mem_append.1 hy with hy | hy
  · obtain ⟨a, b⟩ := h.all y hy
    exact one y a b
  · obtain rfl : y = x := by simpa using hy
    exact one y hx hne
theorem OwnRings.rings {base : Nat} {w : World} {A : Option Addr} {c : Nat} {Y : List RgR} (h : OwnRings base w A c Y) (hl : Y.length < 4611686018427387904) : IsRings w A c Y := ⟨h.own.isRow encG_len, fun y hy => (h.all y hy).1, hl⟩
theorem IsRings.nil (w : World) : IsRings w none 0 [] := ⟨IsRow.nil _ _ _, (fun y hy => by cases hy), by decide⟩
theorem isRow_atG (W : World) (g : Nat) (x : RgR) (hg : W.heap.size = g) : IsRow encG 1 (W.alloc (.cells #[.slice x.A x.xs.length x.c] 23)) (some ⟨g, 0, none⟩) 1 [x] := by
  subst hg
  have h : Owns encG 1 W.heap.size 23 (W.alloc (.cells #[.slice x.A x.xs.length x.c] 23)) (some ⟨W.heap.size, 0, none⟩) 1 [x] := World.ownsRow_lit W _ 1 (Nat.le_refl _) (by decide) rfl
  exact h.isRow encG_len
end Go.Proofs.YtkpnffokjpgalaaGreat
