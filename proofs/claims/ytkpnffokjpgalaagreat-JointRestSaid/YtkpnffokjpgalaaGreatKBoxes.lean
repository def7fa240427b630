/- Boxes of vectors: BoxOf, InBox. -/
import Derived.Test.YtkpnffokjpgalaaGreatKVecs
import Derived.Test.YtkpnffokjpgalaaGreatKVecB
import Derived.Deep.LoopGhost
import Derived.Deep.RegionHeld3
import Derived.BigRegion
import Derived.Outline
import Derived.Deep.DeepCutAuto
import Derived.Deep.DrawnRows
namespace Go.Proofs.YtkpnffokjpgalaaGreat
set_option linter.unusedVariables false
set_option linter.unusedSimpArgs false
open Go.RowKit

@[go_sem ↓] theorem run_max_i {P : Program} (w : World) (ts : Array TypeId) (t : TypeId) (k k' : IntKind) (x y : Int) : (Builtin.max_ ts t #[.int k x, .int k' y]).run P w = .ok (.int k (imax x y)) w := run_max_int2 w ts t k k' x y
@[go_sem ↓] theorem run_min_i {P : Program} (w : World) (ts : Array TypeId) (t : TypeId) (k k' : IntKind) (x y : Int) : (Builtin.min_ ts t #[.int k x, .int k' y]).run P w = .ok (.int k (imin x y)) w := run_min_int2 w ts t k k' x y

abbrev bb (a b c d : Int) : Value := .agg #[.int .i64 a, .int .i64 b, .int .i64 c, .int .i64 d]
/-- Block g is a variable of four ints. -/
structure IsBox (w : World) (g : Nat) (a b c d : Int) : Prop where
  c0 : w.cell? ⟨g, 0, none⟩ = some (.int .i64 a)
  c1 : w.cell? ⟨g, 1, none⟩ = some (.int .i64 b)
  c2 : w.cell? ⟨g, 2, none⟩ = some (.int .i64 c)
  c3 : w.cell? ⟨g, 3, none⟩ = some (.int .i64 d)
  f0 : w.frozen? ⟨g, 0, none⟩ = false
  f1 : w.frozen? ⟨g, 1, none⟩ = false
  f2 : w.frozen? ⟨g, 2, none⟩ = false
  f3 : w.frozen? ⟨g, 3, none⟩ = false
  there : Nonempty (Old w g)
theorem IsBox.of {w w' : World} {g : Nat} {a b c d : Int} (h : IsBox w g a b c d) (hs : SinceOf w w') : IsBox w' g a b c d := by
  obtain ⟨z, rfl⟩ := hs
  have := h.there
  exact ⟨by rw [Since.cell]; exact h.c0, by rw [Since.cell]; exact h.c1, by rw [Since.cell]; exact h.c2, by rw [Since.cell]; exact h.c3, by rw [Since.frozen]; exact h.f0, by rw [Since.frozen]; exact h.f1, by rw [Since.frozen]; exact h.f2, by rw [Since.frozen]; exact h.f3, inferInstance⟩

theorem IsBox.set01 {w : World} {g : Nat} {a b c d : Int} (h : IsBox w g a b c d) (x y : Int) : IsBox ((w.setCell ⟨g, 0, none⟩ (.int .i64 x)).setCell ⟨g, 1, none⟩ (.int .i64 y)).drew g x y c d := by
  obtain ⟨C0, C1, C2, C3, F0, F1, F2, F3, hO⟩ := h
  exact ⟨by simp [go_sem, *], by simp [go_sem, *], by simp [go_sem, *], by simp [go_sem, *], by simp [go_sem, *], by simp [go_sem, *], by simp [go_sem, *], by simp [go_sem, *], inferInstance⟩
theorem IsBox.set23 {w : World} {g : Nat} {a b c d : Int} (h : IsBox w g a b c d) (x y : Int) : IsBox ((w.setCell ⟨g, 2, none⟩ (.int .i64 x)).setCell ⟨g, 3, none⟩ (.int .i64 y)).drew g a b x y := by
  obtain ⟨C0, C1, C2, C3, F0, F1, F2, F3, hO⟩ := h
  exact ⟨by simp [go_sem, *], by simp [go_sem, *], by simp [go_sem, *], by simp [go_sem, *], by simp [go_sem, *], by simp [go_sem, *], by simp [go_sem, *], by simp [go_sem, *], inferInstance⟩
/-- One more vector in a box. -/
def bstep (b : Int × Int × Int × Int) (p : Int × Int) : Int × Int × Int × Int := (imin b.1 p.1, imin b.2.1 p.2, imax b.2.2.1 p.1, imax b.2.2.2 p.2)
def boxOf (l : List (Int × Int)) : Int × Int × Int × Int :=
  match l with
  | [] => (0, 0, 0, 0)
  | p :: _ => l.foldl bstep (p.1, p.2, p.1, p.2)
def boxTo (p : Int × Int) (l : List (Int × Int)) (k : Nat) : Int × Int × Int × Int := (l.take k).foldl bstep (p.1, p.2, p.1, p.2)
theorem boxTo_succ (p : Int × Int) (l : List (Int × Int)) (k : Nat) (h : k < l.length) : boxTo p l (k + 1) = bstep (boxTo p l k) l[k] := by
  unfold boxTo; rw [List.take_succ_eq_append_getElem h, List.foldl_append]; rfl

theorem boxOf_any (A : Option Addr) (c : Nat) (l : List (Int × Int)) (w : World) (hl : IsVecs w A c l) (hn : l.length * 16 ≤ 140737488355328) :
    Gives Tryz.prog 121 #[.slice A l.length c] w (.tuple #[bb (boxOf l).1 (boxOf l).2.1 (boxOf l).2.2.1 (boxOf l).2.2.2, .bool (!l.isEmpty)]) := by
  apply Gives.ret
  match l, hl, hn with
  | [], hl, hn =>
    clear hl hn
    go_enter Tryz.func121, Tryz.ntmps121
    go_wp2
    go_returns
    exact ⟨rfl, by (repeat (first | (with_reducible exact LaterOf.refl _) | (with_reducible refine LaterOf.alloc ?_ _) | (with_reducible refine LaterOf.drew ?_) | (with_reducible refine LaterOf.drewN ?_ _) | (with_reducible refine LaterOf.later ?_ _) | (with_reducible refine LaterOf.setCell ?_ (by first | exact Nat.le_refl _ | (simp; done) | omega | (simp; omega)) _)))⟩
  | p :: l', hl, hn =>
    obtain ⟨g, off, rfl, hr⟩ := hl.at_ (by simp)
    generalize hL : p :: l' = l at *
    have hlen : 0 < l.length := by rw [← hL]; simp
    have c0 := hr.v0 0 hlen
    have c1 := hr.v1 0 hlen
    have e0 : l[0] = p := by subst hL; rfl
    have hO := hr.there
    rw [e0] at c0 c1
    simp only [Nat.zero_mul, Nat.add_zero] at c0 c1
    have HR := Lib.hid (And.intro hr (And.intro e0 hL))
    clear hr e0 hl hL
    have hl0 : ((l.length : Int) == 0) = false := by rw [beq_eq_false_iff_ne]; omega
    go_enter Tryz.func121, Tryz.ntmps121
    go_wp2_with fail
    go_region
    go_wp2_with fail
    go_loopg [19] l.length (fun m s5 wr => ∃ k : Nat, k ≤ l.length ∧ l.length - k ≤ m ∧ s5 = .int .i64 k ∧ IsBox wr (w.heap.size + 1) (boxTo p l k).1 (boxTo p l k).2.1 (boxTo p l k).2.2.1 (boxTo p l k).2.2.2 ∧
      LaterOf (w.alloc (.cells #[.int .i64 0, .int .i64 0, .int .i64 0, .int .i64 0] 128)) wr)
    case atStart => exact ⟨0, by omega, by omega, rfl, ⟨by simp [go_sem, boxTo], by simp [go_sem, boxTo], by simp [go_sem, boxTo], by simp [go_sem, boxTo], by simp [go_sem], by simp [go_sem], by simp [go_sem], by simp [go_sem], inferInstance⟩, by (repeat (first | (with_reducible exact LaterOf.refl _) | (with_reducible refine LaterOf.alloc ?_ _) | (with_reducible refine LaterOf.drew ?_) | (with_reducible refine LaterOf.drewN ?_ _) | (with_reducible refine LaterOf.later ?_ _) | (with_reducible refine LaterOf.setCell ?_ (by first | exact Nat.le_refl _ | (simp; done) | omega | (simp; omega)) _)))⟩
    case round =>
      obtain ⟨k, hk, hm, rfl, hb, hz⟩ := hrel
      by_cases hlt : k < l.length
      · have hrz := (HR.out.1).of (((SinceOf.refl w).alloc _).trans hz.since)
        have hsz : (w.alloc (.cells #[.int .i64 0, .int .i64 0, .int .i64 0, .int .i64 0] 128)).heap.size = w.heap.size + 1 := by simp
        have v0 := hrz.v0 k hlt
        have v1 := hrz.v1 k hlt
        have hOz := hrz.there
        have hs := boxTo_succ p l k hlt
        obtain ⟨⟨x, y⟩, hq⟩ : ∃ q, q = l[k] := ⟨_, rfl⟩
        rw [← hq] at v0 v1 hs
        obtain ⟨⟨b0, b1, b2, b3⟩, hbb⟩ : ∃ q, q = boxTo p l k := ⟨_, rfl⟩
        rw [← hbb] at hb hs
        generalize hh : w.heap.size + 1 = h at hb hsz
        have HS := Lib.hid (And.intro (And.intro hs hsz) (And.intro hz (And.intro hb (And.intro hh hq))))
        obtain ⟨C0, C1, C2, C3, F0, F1, F2, F3, hO1⟩ := hb
        simp only at v0 v1 C0 C1 C2 C3
        have hne : Nonempty (Apart g h) := ⟨⟨by have := hO.elim fun h => h.lt; omega⟩⟩
        clear hrz hq hbb hs hsz hz
        go_upto_region 8 with fail
        go_cut [5] (fun s5 wx => s5 = .int .i64 k ∧ IsBox wx h (imin b0 x) (imin b1 y) b2 b3 ∧ LaterOf (w.alloc (.cells #[.int .i64 0, .int .i64 0, .int .i64 0, .int .i64 0] 128)) wx)
        case first =>
          go_big_region
          go_wp2_with fail
          go_meet
          exact ⟨rfl, HS.out.2.2.1.set01 _ _, ((HS.out.2.1.setCell (by rw [HS.out.1.2]; exact Nat.le_refl _) _).setCell (by rw [HS.out.1.2]; exact Nat.le_refl _) _).drew⟩
        case rest =>
          clear C0 C1 C2 C3 F0 F1 F2 F3 hO1 hOz v0 v1
          obtain ⟨rfl, hb2, hz2⟩ := hcut
          have hr2 := (HR.out.1).of (((SinceOf.refl w).alloc _).trans hz2.since)
          have v0 := hr2.v0 k hlt
          have v1 := hr2.v1 k hlt
          have hO2 := hr2.there
          obtain ⟨⟨hs, hsz⟩, -, -, hh, hq⟩ := HS.out
          rw [← hq] at v0 v1
          simp only at v0 v1
          clear HS
          have HS := Lib.hid (And.intro hs (And.intro hsz (And.intro hz2 hb2)))
          obtain ⟨C0, C1, C2, C3, F0, F1, F2, F3, hO1⟩ := hb2
          clear hr2 hs hsz hz2 hq
          go_wp2_with fail
          go_big_region
          go_wp2_with fail
          subst hh
          go_roundg (l.length - (k + 1))
          case measure => omega
          case rel =>
            obtain ⟨hs, hsz, hz2, hb2⟩ := HS.out
            refine ⟨k + 1, hlt, Nat.le_refl _, by simp, ?_, ((hz2.setCell (by rw [hsz]; exact Nat.le_refl _) _).setCell (by rw [hsz]; exact Nat.le_refl _) _).drew⟩
            rw [hs]
            exact hb2.set23 _ _
      · have hkl : k = l.length := by omega
        obtain ⟨z, rfl⟩ := hz
        have e : boxTo p l k = boxOf l := by
          obtain ⟨-, -, hL⟩ := HR.out
          rw [hkl]; unfold boxTo; rw [List.take_length, ← hL]; rfl
        rw [e] at hb
        clear e
        obtain ⟨⟨b0, b1, b2, b3⟩, hB⟩ : ∃ q, q = boxOf l := ⟨_, rfl⟩
        rw [← hB] at hb
        have he : l.isEmpty = false := by cases l <;> simp at hlen ⊢
        obtain ⟨C0, C1, C2, C3, F0, F1, F2, F3, hO1⟩ := hb
        go_wp2_with fail
        go_returns
        rw [← hB]
        exact ⟨rfl, by (repeat (first | (with_reducible exact LaterOf.refl _) | (with_reducible refine LaterOf.alloc ?_ _) | (with_reducible refine LaterOf.drew ?_) | (with_reducible refine LaterOf.drewN ?_ _) | (with_reducible refine LaterOf.later ?_ _) | (with_reducible refine LaterOf.setCell ?_ (by first | exact Nat.le_refl _ | (simp; done) | omega | (simp; omega)) _)))⟩
def inB (a b c d x y : Int) : Bool := decide (a ≤ x) && decide (x ≤ c) && decide (b ≤ y) && decide (y ≤ d)
theorem inBox_any (a b c d x y : Int) (w : World) : Gives Tryz.prog 122 #[bb a b c d, vv x y] w (.bool (inB a b c d x y)) := by
  apply Gives.ret
  have key : (¬ a ≤ x ∧ inB a b c d x y = false) ∨ (a ≤ x ∧ ¬ x ≤ c ∧ inB a b c d x y = false) ∨ (a ≤ x ∧ x ≤ c ∧ ¬ b ≤ y ∧ inB a b c d x y = false) ∨ (a ≤ x ∧ x ≤ c ∧ b ≤ y ∧ ¬ y ≤ d ∧ inB a b c d x y = false) ∨ (a ≤ x ∧ x ≤ c ∧ b ≤ y ∧ y ≤ d ∧ inB a b c d x y = true) := by
    unfold inB
    by_cases h1 : a ≤ x <;> by_cases h2 : x ≤ c <;> by_cases h3 : b ≤ y <;> by_cases h4 : y ≤ d <;> simp [h1, h2, h3, h4]
  rcases key with ⟨h1, e⟩ | ⟨h1, h2, e⟩ | ⟨h1, h2, h3, e⟩ | ⟨h1, h2, h3, h4, e⟩ | ⟨h1, h2, h3, h4, e⟩ <;> rw [e] <;> clear e <;> go_enter Tryz.func122, Tryz.ntmps122 <;> go_wp2 <;> go_returns <;> exact ⟨rfl, by (repeat (first | (with_reducible exact LaterOf.refl _) | (with_reducible refine LaterOf.alloc ?_ _) | (with_reducible refine LaterOf.drew ?_) | (with_reducible refine LaterOf.drewN ?_ _) | (with_reducible refine LaterOf.later ?_ _) | (with_reducible refine LaterOf.setCell ?_ (by first | exact Nat.le_refl _ | (simp; done) | omega | (simp; omega)) _)))⟩
end Go.Proofs.YtkpnffokjpgalaaGreat
