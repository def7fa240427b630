/- Layer 52: dispatch. -/
import Derived.Test.YtbceogoeoojdbaaSch23
namespace Go.Proofs.Ytbceogoeoojdbaa
open Go.RowKit Go.Sort
set_option linter.unusedVariables false
attribute [local go_sem ↓] Go.wp_at_zero Go.wp_at_succ

/-- The better one of what was found and what is found on a machine. -/
def betterS (best : Option SlotR) (x : Option SlotR) : Option SlotR :=
  match x with
  | none => best
  | some x => match best with
    | none => some x
    | some b => if x.stop < b.stop then some x else some b
def dispatchV (s : ShopR) (L : List JobR) (l : List SlotR) (jb : Int) : Option SlotR := (jobAt L jb).ms.foldl (fun best m => betterS best (onV s L l jb m)) none
theorem foldl_at {α β : Type} (f : β → α → β) (b : β) {l : List α} {k : Nat} (h : k < l.length) : (l.take (k + 1)).foldl f b = f ((l.take k).foldl f b) l[k] := by
  rw [List.take_succ_eq_append_getElem h, List.foldl_append]; rfl
def slotOr (o : Option SlotR) : SlotR := o.getD ⟨0, 0, 0, 0⟩
structure SlotW (w : World) (g : Nat) (x : SlotR) : Prop where
  c0 : w.cell? ⟨g, 0, none⟩ = some (.int .i64 x.job)
  c1 : w.cell? ⟨g, 1, none⟩ = some (.int .i64 x.mach)
  c2 : w.cell? ⟨g, 2, none⟩ = some (.int .i64 x.start)
  c3 : w.cell? ⟨g, 3, none⟩ = some (.int .i64 x.stop)
  f0 : w.frozen? ⟨g, 0, none⟩ = false
  f1 : w.frozen? ⟨g, 1, none⟩ = false
  f2 : w.frozen? ⟨g, 2, none⟩ = false
  f3 : w.frozen? ⟨g, 3, none⟩ = false
  there : Nonempty (Old w g)
theorem SlotW.of {w w' : World} {g : Nat} {x : SlotR} (h : SlotW w g x) (hs : SinceOf w w') : SlotW w' g x := by
  obtain ⟨c0, c1, c2, c3, f0, f1, f2, f3, hO⟩ := h
  obtain ⟨z, rfl⟩ := hs
  exact ⟨by rw [Since.cell]; exact c0, by rw [Since.cell]; exact c1, by rw [Since.cell]; exact c2, by rw [Since.cell]; exact c3, by rw [Since.frozen]; exact f0, by rw [Since.frozen]; exact f1, by rw [Since.frozen]; exact f2, by rw [Since.frozen]; exact f3, inferInstance⟩
theorem SlotW.set {w : World} {g : Nat} {x : SlotR} (h : SlotW w g x) (y : SlotR) : SlotW ((((w.setCell ⟨g, 0, none⟩ (.int .i64 y.job)).setCell ⟨g, 1, none⟩ (.int .i64 y.mach)).setCell ⟨g, 2, none⟩ (.int .i64 y.start)).setCell ⟨g, 3, none⟩ (.int .i64 y.stop)) g y := by
  obtain ⟨c0, c1, c2, c3, f0, f1, f2, f3, hO⟩ := h
  have ne : ∀ i j : Nat, i ≠ j → (⟨g, i, none⟩ : Addr) ≠ ⟨g, j, none⟩ := fun i j h e => h (by injection e)
  refine ⟨?_, ?_, ?_, ?_, by simpa using f0, by simpa using f1, by simpa using f2, by simpa using f3, inferInstance⟩
  · rw [World.cell?_setCell_other _ _ _ _ (ne _ _ (by omega)), World.cell?_setCell_other _ _ _ _ (ne _ _ (by omega)), World.cell?_setCell_other _ _ _ _ (ne _ _ (by omega))]
    exact World.cell?_setCell_same _ _ _ c0
  · rw [World.cell?_setCell_other _ _ _ _ (ne _ _ (by omega)), World.cell?_setCell_other _ _ _ _ (ne _ _ (by omega))]
    exact World.cell?_setCell_same (u := .int .i64 x.mach) _ _ _ (by rw [World.cell?_setCell_other _ _ _ _ (ne _ _ (by omega))]; exact c1)
  · rw [World.cell?_setCell_other _ _ _ _ (ne _ _ (by omega))]
    exact World.cell?_setCell_same (u := .int .i64 x.start) _ _ _ (by rw [World.cell?_setCell_other _ _ _ _ (ne _ _ (by omega)), World.cell?_setCell_other _ _ _ _ (ne _ _ (by omega))]; exact c2)
  · exact World.cell?_setCell_same (u := .int .i64 x.stop) _ _ _ (by rw [World.cell?_setCell_other _ _ _ _ (ne _ _ (by omega)), World.cell?_setCell_other _ _ _ _ (ne _ _ (by omega)), World.cell?_setCell_other _ _ _ _ (ne _ _ (by omega))]; exact c3)
set_option maxRecDepth 100000 in
set_option maxHeartbeats 4000000 in
theorem dispatch_any (s : ShopR) (A : Option Addr) (c : Nat) (L : List JobR) (B : Option Addr) (d : Nat) (l : List SlotR) (jb : Nat) (w : World) (hs : IsShop w s) (h : IsJobs w A c L) (gp : GoodP s L) (hord : ∀ j ∈ L, 0 ≤ j.ord ∧ j.ord ≤ 1000) (hmc : ∀ j ∈ L, ∀ m ∈ j.ms, 0 ≤ m ∧ m < s.cals.length) (hl : IsSlots w B d l) (hll : l.length < 1073741824) (hn : NamedS s L l) (hjb : jb < L.length) :
    Yields Try.prog 64 #[shopV s, .slice A L.length c, .slice B l.length d, .int .i64 jb] w (slotOpt (dispatchV s L l jb)) := by
  apply Yields.ret
  have ON := fun (m : Nat) (hm : m < s.cals.length) W (hW : SinceOf w W) => on_any s A c L B d l jb m W (hs.of hW) (h.of hW) gp hord (hl.of hW) hll hn hjb hm
  have hjl := h.len
  obtain ⟨gj, oj, hAj, hrj⟩ := h.row.at_ (by omega)
  have hOj := hrj.there
  have i0 := hrj.j0 jb hjb
  have hms := h.all _ (List.getElem_mem hjb)
  have hmr := hmc _ (List.getElem_mem hjb)
  have em : (jobAt L jb).ms = L[jb].ms := by rw [jobAt_at hjb]
  obtain ⟨res, hres⟩ : ∃ v, v = dispatchV s L l jb := ⟨_, rfl⟩
  rw [← hres]
  unfold dispatchV at hres
  rw [em] at hres
  obtain ⟨sA, sc, cals, sB, sd, R, most⟩ := s
  simp only at *
  subst hAj
  generalize L[jb].ms = ms at *
  have hml := hms.2
  have H := Lib.hid (And.intro hms (And.intro hmr (And.intro hres ON)))
  clear hs h gp hord hmc hl hn hms hmr hres ON hrj em
  go_enter Try.func64, Try.ntmps64
  go_wp2_with fail
  go_loopg [11, 22] ms.length (fun gas s11 s22 wr => ∃ (k : Nat) (best : Option SlotR), k ≤ ms.length ∧ ms.length - k ≤ gas ∧ s11 = .bool best.isSome ∧ s22 = .int .i64 k ∧ SinceOf ((w.alloc (.cells #[.slice sA cals.length sc, .slice sB R.length sd, .int .i64 most] 36)).alloc (.cells #[.int .i64 0, .int .i64 0, .int .i64 0, .int .i64 0] 46)) wr ∧ SlotW wr (w.heap.size + 1 + 1) (slotOr best) ∧
    best = (ms.take k).foldl (fun best m => betterS best (onV ⟨sA, sc, cals, sB, sd, R, most⟩ L l jb m)) none)
  case atStart => exact ⟨0, none, by omega, by omega, rfl, rfl, by (repeat (first | (with_reducible exact SinceOf.refl _) | (with_reducible assumption) | (with_reducible refine SinceOf.alloc ?_ _) | (with_reducible refine SinceOf.drew ?_) | (with_reducible refine SinceOf.drewN ?_ _) | (with_reducible refine SinceOf.later ?_ _) | (with_reducible refine SinceOf.further ?_ _) | (with_reducible refine SinceOf.setCell ?_ (by first | exact Nat.le_refl _ | (simp; done) | omega | (simp; omega)) _))), ⟨by simp [go_sem, slotOr], by simp [go_sem, slotOr], by simp [go_sem, slotOr], by simp [go_sem, slotOr], by simp [go_sem], by simp [go_sem], by simp [go_sem], by simp [go_sem], inferInstance⟩, by simp⟩
  case round =>
    obtain ⟨k, best, hk, hgas, rfl, rfl, ⟨z, rfl⟩, hb, hbe⟩ := hrel
    by_cases hlt : k < ms.length
    · have hsn := foldl_at (fun best m => betterS best (onV ⟨sA, sc, cals, sB, sd, R, most⟩ L l jb m)) none hlt
      rw [← hbe] at hsn
      obtain ⟨hm0, hm1⟩ := H.out.2.1 _ (List.getElem_mem hlt)
      obtain ⟨mN, hmN⟩ : ∃ q : Nat, ms[k] = q := ⟨ms[k].toNat, by omega⟩
      rw [hmN] at hsn
      have OK := H.out.2.2.2 mN (by omega)
      obtain ⟨gm, om, hAm, hrm⟩ := (H.out.1.1.of (show SinceOf w z.wd by (repeat (first | (with_reducible exact SinceOf.refl _) | (with_reducible assumption) | (with_reducible refine SinceOf.alloc ?_ _) | (with_reducible refine SinceOf.drew ?_) | (with_reducible refine SinceOf.drewN ?_ _) | (with_reducible refine SinceOf.later ?_ _) | (with_reducible refine SinceOf.further ?_ _) | (with_reducible refine SinceOf.setCell ?_ (by first | exact Nat.le_refl _ | (simp; done) | omega | (simp; omega)) _))))).at_ (by omega)
      have hOm := hrm.there
      have n0 := hrm.n0 k hlt
      rw [hmN] at n0
      generalize onV ⟨sA, sc, cals, sB, sd, R, most⟩ L l jb mN = ov at *
      have HB := Lib.hid (And.intro hb (And.intro hbe hsn))
      obtain ⟨b0, b1, b2, b3, e0, e1, e2, e3, hO2⟩ := hb
      clear hbe hsn hrm hmN hm0 hm1
      generalize L[jb].A = Am at *
      subst hAm
      cases ov with
      | none =>
        go_wp2_with fail
        (with_reducible refine (OK _ (by (repeat (first | (with_reducible exact SinceOf.refl _) | (with_reducible assumption) | (with_reducible refine SinceOf.alloc ?_ _) | (with_reducible refine SinceOf.drew ?_) | (with_reducible refine SinceOf.drewN ?_ _) | (with_reducible refine SinceOf.later ?_ _) | (with_reducible refine SinceOf.further ?_ _) | (with_reducible refine SinceOf.setCell ?_ (by first | exact Nat.le_refl _ | (simp; done) | omega | (simp; omega)) _))))).calls.mono ?_)
        rintro e _ ⟨rfl, x1, rfl⟩
        unfold slotOpt
        go_wp2_with fail
        go_roundg (ms.length - (k + 1))
        case measure => omega
        case rel => exact ⟨k + 1, best, hlt, Nat.le_refl _, rfl, by go_num, by (repeat (first | (with_reducible exact SinceOf.refl _) | (with_reducible assumption) | (with_reducible refine SinceOf.alloc ?_ _) | (with_reducible refine SinceOf.drew ?_) | (with_reducible refine SinceOf.drewN ?_ _) | (with_reducible refine SinceOf.later ?_ _) | (with_reducible refine SinceOf.further ?_ _) | (with_reducible refine SinceOf.setCell ?_ (by first | exact Nat.le_refl _ | (simp; done) | omega | (simp; omega)) _))), HB.out.1.of (by (repeat (first | (with_reducible exact SinceOf.refl _) | (with_reducible assumption) | (with_reducible refine SinceOf.alloc ?_ _) | (with_reducible refine SinceOf.drew ?_) | (with_reducible refine SinceOf.drewN ?_ _) | (with_reducible refine SinceOf.later ?_ _) | (with_reducible refine SinceOf.further ?_ _) | (with_reducible refine SinceOf.setCell ?_ (by first | exact Nat.le_refl _ | (simp; done) | omega | (simp; omega)) _)))), HB.out.2.2.symm⟩
      | some x =>
        cases best with
        | none =>
          go_wp2_with fail
          (with_reducible refine (OK _ (by (repeat (first | (with_reducible exact SinceOf.refl _) | (with_reducible assumption) | (with_reducible refine SinceOf.alloc ?_ _) | (with_reducible refine SinceOf.drew ?_) | (with_reducible refine SinceOf.drewN ?_ _) | (with_reducible refine SinceOf.later ?_ _) | (with_reducible refine SinceOf.further ?_ _) | (with_reducible refine SinceOf.setCell ?_ (by first | exact Nat.le_refl _ | (simp; done) | omega | (simp; omega)) _))))).calls.mono ?_)
          rintro e _ ⟨rfl, x1, rfl⟩
          unfold slotOpt
          go_wp2_with fail
          go_roundg (ms.length - (k + 1))
          case measure => omega
          case rel => exact ⟨k + 1, some x, hlt, Nat.le_refl _, rfl, by go_num, by (repeat (first | (with_reducible exact SinceOf.refl _) | (with_reducible assumption) | (with_reducible refine SinceOf.alloc ?_ _) | (with_reducible refine SinceOf.drew ?_) | (with_reducible refine SinceOf.drewN ?_ _) | (with_reducible refine SinceOf.later ?_ _) | (with_reducible refine SinceOf.further ?_ _) | (with_reducible refine SinceOf.setCell ?_ (by first | exact Nat.le_refl _ | (simp; done) | omega | (simp; omega)) _))), (HB.out.1.of (by (repeat (first | (with_reducible exact SinceOf.refl _) | (with_reducible assumption) | (with_reducible refine SinceOf.alloc ?_ _) | (with_reducible refine SinceOf.drew ?_) | (with_reducible refine SinceOf.drewN ?_ _) | (with_reducible refine SinceOf.later ?_ _) | (with_reducible refine SinceOf.further ?_ _) | (with_reducible refine SinceOf.setCell ?_ (by first | exact Nat.le_refl _ | (simp; done) | omega | (simp; omega)) _))))).set x, HB.out.2.2.symm⟩
        | some bx =>
          have hbx : betterS (some bx) (some x) = if x.stop < bx.stop then some x else some bx := rfl
          by_cases hlt2 : x.stop < bx.stop
          · have hd : decide (x.stop < bx.stop) = true := by simpa using hlt2
            rw [if_pos hlt2] at hbx
            have HX := Lib.hid hbx
            clear hbx
            simp only [slotOr, Option.getD_some] at b0 b1 b2 b3
            go_wp2_with fail
            (with_reducible refine (OK _ (by (repeat (first | (with_reducible exact SinceOf.refl _) | (with_reducible assumption) | (with_reducible refine SinceOf.alloc ?_ _) | (with_reducible refine SinceOf.drew ?_) | (with_reducible refine SinceOf.drewN ?_ _) | (with_reducible refine SinceOf.later ?_ _) | (with_reducible refine SinceOf.further ?_ _) | (with_reducible refine SinceOf.setCell ?_ (by first | exact Nat.le_refl _ | (simp; done) | omega | (simp; omega)) _))))).calls.mono ?_)
            rintro e _ ⟨rfl, x1, rfl⟩
            unfold slotOpt
            go_wp2_with fail
            go_roundg (ms.length - (k + 1))
            case measure => omega
            case rel => exact ⟨k + 1, some x, hlt, Nat.le_refl _, rfl, by go_num, by (repeat (first | (with_reducible exact SinceOf.refl _) | (with_reducible assumption) | (with_reducible refine SinceOf.alloc ?_ _) | (with_reducible refine SinceOf.drew ?_) | (with_reducible refine SinceOf.drewN ?_ _) | (with_reducible refine SinceOf.later ?_ _) | (with_reducible refine SinceOf.further ?_ _) | (with_reducible refine SinceOf.setCell ?_ (by first | exact Nat.le_refl _ | (simp; done) | omega | (simp; omega)) _))), (HB.out.1.of (by (repeat (first | (with_reducible exact SinceOf.refl _) | (with_reducible assumption) | (with_reducible refine SinceOf.alloc ?_ _) | (with_reducible refine SinceOf.drew ?_) | (with_reducible refine SinceOf.drewN ?_ _) | (with_reducible refine SinceOf.later ?_ _) | (with_reducible refine SinceOf.further ?_ _) | (with_reducible refine SinceOf.setCell ?_ (by first | exact Nat.le_refl _ | (simp; done) | omega | (simp; omega)) _))))).set x, by rw [HB.out.2.2, HX.out]⟩
          · have hd : decide (x.stop < bx.stop) = false := by simpa using hlt2
            rw [if_neg hlt2] at hbx
            have HX := Lib.hid hbx
            clear hbx
            simp only [slotOr, Option.getD_some] at b0 b1 b2 b3
            go_wp2_with fail
            (with_reducible refine (OK _ (by (repeat (first | (with_reducible exact SinceOf.refl _) | (with_reducible assumption) | (with_reducible refine SinceOf.alloc ?_ _) | (with_reducible refine SinceOf.drew ?_) | (with_reducible refine SinceOf.drewN ?_ _) | (with_reducible refine SinceOf.later ?_ _) | (with_reducible refine SinceOf.further ?_ _) | (with_reducible refine SinceOf.setCell ?_ (by first | exact Nat.le_refl _ | (simp; done) | omega | (simp; omega)) _))))).calls.mono ?_)
            rintro e _ ⟨rfl, x1, rfl⟩
            unfold slotOpt
            go_wp2_with fail
            go_roundg (ms.length - (k + 1))
            case measure => omega
            case rel => exact ⟨k + 1, some bx, hlt, Nat.le_refl _, rfl, by go_num, by (repeat (first | (with_reducible exact SinceOf.refl _) | (with_reducible assumption) | (with_reducible refine SinceOf.alloc ?_ _) | (with_reducible refine SinceOf.drew ?_) | (with_reducible refine SinceOf.drewN ?_ _) | (with_reducible refine SinceOf.later ?_ _) | (with_reducible refine SinceOf.further ?_ _) | (with_reducible refine SinceOf.setCell ?_ (by first | exact Nat.le_refl _ | (simp; done) | omega | (simp; omega)) _))), HB.out.1.of (by (repeat (first | (with_reducible exact SinceOf.refl _) | (with_reducible assumption) | (with_reducible refine SinceOf.alloc ?_ _) | (with_reducible refine SinceOf.drew ?_) | (with_reducible refine SinceOf.drewN ?_ _) | (with_reducible refine SinceOf.later ?_ _) | (with_reducible refine SinceOf.further ?_ _) | (with_reducible refine SinceOf.setCell ?_ (by first | exact Nat.le_refl _ | (simp; done) | omega | (simp; omega)) _)))), by rw [HB.out.2.2, HX.out]⟩
    · have hkl : k = ms.length := by omega
      rw [hkl, List.take_length, ← H.out.2.2.1] at hbe
      obtain ⟨b0, b1, b2, b3, e0, e1, e2, e3, hO2⟩ := hb
      have HB := Lib.hid hbe
      clear hbe hkl
      go_wp2_with fail
      go_returns
      refine ⟨?_, by (repeat (first | (with_reducible exact SinceOf.refl _) | (with_reducible assumption) | (with_reducible refine SinceOf.alloc ?_ _) | (with_reducible refine SinceOf.drew ?_) | (with_reducible refine SinceOf.drewN ?_ _) | (with_reducible refine SinceOf.later ?_ _) | (with_reducible refine SinceOf.further ?_ _) | (with_reducible refine SinceOf.setCell ?_ (by first | exact Nat.le_refl _ | (simp; done) | omega | (simp; omega)) _)))⟩
      rw [← HB.out]
      cases best <;> rfl
end Go.Proofs.Ytbceogoeoojdbaa
