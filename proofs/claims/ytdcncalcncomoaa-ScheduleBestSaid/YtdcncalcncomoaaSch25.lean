/- Layer 52: dispatch. -/
import Derived.Test.YtdcncalcncomoaaSch23
namespace Go.Proofs.Ytdcncalcncomoaa
open Go.RowKit Go.Sort
set_option linter.unusedVariables false
attribute [local go_sem ↓] Go.wp_at_zero Go.wp_at_succ

/-- The better one of what was found and what is found on a machine. -/
def betterS (best : Option SlotR) (x : Option SlotR) : Option SlotR :=
  match x with
  | none => best
  | some x => match best with
    | none => some x
    | some b => if x.stop < b.stop then some x else some b
def dispatchV (s : ShopR) (L : List JobR) (l : List SlotR) (jb : Int) : Option SlotR := (jobAt L jb).ms.foldl (fun best m => betterS best (onV s L l jb m)) none
theorem foldl_at {α β : Type} (f : β → α → β) (b : β) {l : List α} {k : Nat} (h : k < l.length) : (l.take (k + 1)).foldl f b = f ((l.take k).foldl f b) l[k] := by
  rw [List.take_succ_eq_append_getElem h, List.foldl_append]; rfl
def slotOr (o : Option SlotR) : SlotR := o.getD ⟨0, 0, 0, 0⟩
structure SlotW (w : World) (g : Nat) (x : SlotR) : Prop where
  c0 : w.cell? ⟨g, 0, none⟩ = some (.int .i64 x.job)
  c1 : w.cell? ⟨g, 1, none⟩ = some (.int .i64 x.mach)
  c2 : w.cell? ⟨g, 2, none⟩ = some (.int .i64 x.start)
  c3 : w.cell? ⟨g, 3, none⟩ = some (.int .i64 x.stop)
  f0 : w.frozen? ⟨g, 0, none⟩ = false
  f1 : w.frozen? ⟨g, 1, none⟩ = false
  f2 : w.frozen? ⟨g, 2, none⟩ = false
  f3 : w.frozen? ⟨g, 3, none⟩ = false
  there : Nonempty (Old w g)
theorem SlotW.of {w w' : World} {g : Nat} {x : SlotR} (h : SlotW w g x) (hs : SinceOf w w') : SlotW w' g x := by
  obtain ⟨c0, c1, c2, c3, f0, f1, f2, f3, hO⟩ := h
  obtain ⟨z, rfl⟩ := hs
  exact ⟨by rw [Since.cell]; exact c0, by rw [Since.cell]; exact c1, by rw [Since.cell]; exact c2, by rw [Since.cell]; exact c3, by rw [Since.frozen]; exact f0, by rw [Since.frozen]; exact f1, by rw [Since.frozen]; exact f2, by rw [Since.frozen]; exact f3, inferInstance⟩
theorem SlotW.set {w : World} {g : Nat} {x : SlotR} (h : SlotW w g x) (y : SlotR) : SlotW ((((w.setCell ⟨g, 0, none⟩ (.int .i64 y.job)).setCell ⟨g, 1, none⟩ (.int .i64 y.mach)).setCell ⟨g, 2, none⟩ (.int .i64 y.start)).setCell ⟨g, 3, none⟩ (.int .i64 y.stop)) g y := by
  obtain ⟨c0, c1, c2, c3, f0, f1, f2, f3, hO⟩ := h
  have ne : ∀ i j : Nat, i ≠ j → (⟨g, i, none⟩ : Addr) ≠ ⟨g, j, none⟩ := fun i j h e => h (by injection e)
  refine ⟨?_, ?_, ?_, ?_, by simpa using f0, by simpa using f1, by simpa using f2, by simpa using f3, inferInstance⟩
  · rw [World.cell?_setCell_other _ _ _ _ (ne _ _ (by omega)), World.cell?_setCell_other _ _ _ _ (ne _ _ (by omega)), World.cell?_setCell_other _ _ _ _ (ne _ _ (by omega))]
    exact World.cell?_setCell_same _ _ _ c0
  · rw [World.cell?_setCell_other _ _ _ _ (ne _ _ (by omega)), World.cell?_setCell_other _ _ _ _ (ne _ _ (by omega))]
    exact World.cell?_setCell_same (u := .int .i64 x.mach) _ _ _ (by rw [World.cell?_setCell_other _ _ _ _ (ne _ _ (by omega))]; exact c1)
  · rw [World.cell?_setCell_other _ _ _ _ (ne _ _ (by omega))]
    exact World.cell?_setCell_same (u := .int .i64 x.start) _ _ _ (by rw [World.cell?_setCell_other _ _ _ _ (ne _ _ (by omega)), World.cell?_setCell_other _ _ _ _ (ne _ _ (by omega))]; exact c2)
  · exact World.cell?_setCell_same (u := .int .i64 x.stop) _ _ _ (by rw [World.cell?_setCell_other _ _ _ _ (ne _ _ (by omega)), World.cell?_setCell_other _ _ _ _ (ne _ _ (by omega)), World.cell?_setCell_other _ _ _ _ (ne _ _ (by omega))]; exact c3)
set_option maxRecDepth 100000 in
set_option maxHeartbeats 4000000 in
theorem dispatch_any (s : ShopR) (A : Option Addr) (c : Nat) (L : List JobR) (B : Option Addr) (d : Nat) (l : List SlotR) (jb : Nat) (w : World) (hs : IsShop w s) (h : IsJobs w A c L) (gp : GoodP s L) (hord : ∀ j ∈ L, 0 ≤ j.ord ∧ j.ord ≤ 1000) (hmc : ∀ j ∈ L, ∀ m ∈ j.ms, 0 ≤ m ∧ m < s.cals.length) (hl : IsSlots w B d l) (hll : l.length < 1073741824) (hn : NamedS s L l) (hjb : jb < L.length) :
    Yields Try.prog 29 #[shopV s, .slice A L.length c, .slice B l.length d, .int .i64 jb] w (slotOpt (dispatchV s L l jb)) := by
  apply Yields.ret
  have ON := fun (m : Nat) (hm : m < s.cals.length) W (hW : SinceOf w W) => on_any s A c L B d l jb m W (hs.of hW) (h.of hW) gp hord (hl.of hW) hll hn hjb hm
  have hjl := h.len
  obtain ⟨gj, oj, hAj, hrj⟩ := h.row.at_ (by omega)
  have hOj := hrj.there
  have i0 := hrj.j0 jb hjb
  have hms := h.all _ (List.getElem_mem hjb)
  have hmr := hmc _ (List.getElem_mem hjb)
  have em : (jobAt L jb).ms = L[jb].ms := by rw [jobAt_at hjb]
  obtain ⟨res, hres⟩ : ∃ v, v = dispatchV s L l jb := ⟨_, rfl⟩
  rw [← hres]
  unfold dispatchV at hres
  rw [em] at hres
  obtain ⟨sA, sc, cals, sB, sd, R, most⟩ := s
  simp only at *
  subst hAj
  generalize L[jb].ms = ms at *
  have hml := hms.2
  have H := Lib.hid (And.intro hms (And.intro hmr (And.intro hres ON)))
  clear hs h gp hord hmc hl hn hms hmr hres ON hrj em
  go_enter Try.func29, Try.ntmps29
  go_wp2_with fail
  go_loopg [11, 22] ms.length (fun gas s11 s22 wr => ∃ (k : Nat) (best : Option SlotR), k ≤ ms.length ∧ ms.length - k ≤ gas ∧ s11 = .bool best.isSome ∧ s22 = .int .i64 k ∧ SinceOf ((w.alloc (.cells #[.slice sA cals.length sc, .slice sB R.length sd, .int .i64 most] 40)).alloc (.cells #[.int .i64 0, .int .i64 0, .int .i64 0, .int .i64 0] 34)) wr ∧ SlotW wr (w.heap.size + 1 + 1) (slotOr best) ∧
    best = (ms.take k).foldl (fun best m => betterS best (onV ⟨sA, sc, cals, sB, sd, R, most⟩ L l jb m)) none)
  case atStart => exact ⟨0, none, by omega, by omega, rfl, rfl, by (repeat (first | (with_reducible exact SinceOf.refl _) | (with_reducible assumption) | (with_reducible refine SinceOf.alloc ?_ _) | (with_reducible refine SinceOf.drew ?_) | (with_reducible refine SinceOf.drewN ?_ _) | (with_reducible refine SinceOf.later ?_ _) | (with_reducible refine SinceOf.further ?_ _) | (with_reducible refine SinceOf.setCell ?_ (by first | exact Nat.le_refl _ | (simp; done) | omega | (simp; omega)) _))), ⟨by simp [go_sem, slotOr], by simp [go_sem, slotOr], by simp [go_sem, slotOr], by simp [go_sem, slotOr], by simp [go_sem], by simp [go_sem], by simp [go_sem], by simp [go_sem], inferInstance⟩, by simp⟩
  case round =>
    obtain ⟨k, best, hk, hgas, rfl, rfl, ⟨z, rfl⟩, hb, hbe⟩ := hrel
    by_cases hlt : k < ms.length
    · have hsn := foldl_at (fun best m => betterS best (onV ⟨sA, sc, cals, sB, sd, R, most⟩ L l jb m)) none hlt
      rw [← hbe] at hsn
      obtain ⟨hm0, hm1⟩ := H.out.2.1 _ (List.getElem_mem hlt)
      obtain ⟨mN, hmN⟩ : ∃ q : Nat, ms[k] = q := ⟨ms[k].toNat, by omega⟩
      rw [hmN] at hsn
      have OK := H.out.2.2.2 mN (by omega)
      obtain ⟨gm, om, hAm, hrm⟩ := (H.out.1.1.of (show SinceOf w z.wd by (repeat (first | (with_reducible exact SinceOf.refl _) | (with_reducible assumption) | (with_reducible refine SinceOf.alloc ?_ _) | (with_reducible refine SinceOf.drew ?_) | (with_reducible refine SinceOf.drewN ?_ _) | (with_reducible refine SinceOf.later ?_ _) | (with_reducible refine SinceOf.further ?_ _) | (with_reducible refine SinceOf.setCell ?_ (by first | exact Nat.le_refl _ | (simp; done) | omega | (simp; omega)) _))))).at_ (by omega)
      have hOm := hrm.there
      have n0 := hrm.n0 k hlt
      rw [hmN] at n0
      generalize onV ⟨sA, sc, cals, sB, sd, R, most⟩ L l jb mN = ov at *
      have HB := Lib.hid (And.intro hb (And.intro hbe hsn))
      obtain ⟨b0, b1, b2, b3, e0, e1, e2, e3, hO2⟩ := hb
      clear hbe hsn hrm hmN hm0 hm1
      generalize L[jb].A = Am at *
      subst hAm
      cases ov with
      | none =>
        go_wp2_with fail
        (with_reducible refine (OK _ (by (repeat (first | (with_reducible exact SinceOf.refl _) | (with_reducible assumption) | (with_reducible refine SinceOf.alloc ?_ _) | (with_reducible refine SinceOf.drew ?_) | (with_reducible refine SinceOf.drewN ?_ _) | (with_reducible refine SinceOf.later ?_ _) | (with_reducible refine SinceOf.further ?_ _) | (with_reducible refine SinceOf.setCell ?_ (by first | exact Nat.le_refl _ | (simp; done) | omega | (simp; omega)) _))))).calls.mono ?_)
        rintro e _ ⟨rfl, x1, rfl⟩
        unfold slotOpt
        go_wp2_with fail
        go_roundg (ms.length - (k + 1))
        case measure => omega
        case rel => exact ⟨k + 1, best, hlt, Nat.le_refl _, rfl, by go_num, by (repeat (first | (with_reducible exact SinceOf.refl _) | (with_reducible assumption) | (with_reducible refine SinceOf.alloc ?_ _) | (with_reducible refine SinceOf.drew ?_) | (with_reducible refine SinceOf.drewN ?_ _) | (with_reducible refine SinceOf.later ?_ _) | (with_reducible refine SinceOf.further ?_ _) | (with_reducible refine SinceOf.setCell ?_ (by first | exact Nat.le_refl _ | (simp; done) | omega | (simp; omega)) _))), HB.out.1.of (by (repeat (first | (with_reducible exact SinceOf.refl _) | (with_reducible assumption) | (with_reducible refine SinceOf.alloc ?_ _) | (with_reducible refine SinceOf.drew ?_) | (with_reducible refine SinceOf.drewN ?_ _) | (with_reducible refine SinceOf.later ?_ _) | (with_reducible refine SinceOf.further ?_ _) | (with_reducible refine SinceOf.setCell ?_ (by first | exact Nat.le_refl _ | (simp; done) | omega | (simp; omega)) _)))), HB.out.2.2.symm⟩
      | some x =>
        cases best with
        | none =>
          go_wp2_with fail
          (with_reducible refine (OK _ (by (repeat (first | (with_reducible exact SinceOf.refl _) | (with_reducible assumption) | (with_reducible refine SinceOf.alloc ?_ _) | (with_reducible refine SinceOf.drew ?_) | (with_reducible refine SinceOf.drewN ?_ _) | (with_reducible refine SinceOf.later ?_ _) | (with_reducible refine SinceOf.further ?_ _) | (with_reducible refine SinceOf.setCell ?_ (by first | exact Nat.le_refl _ | (simp; done) | omega | (simp; omega)) _))))).calls.mono ?_)
          rintro e _ ⟨rfl, x1, rfl⟩
          unfold slotOpt
          go_wp2_with fail
          go_roundg (ms.length - (k + 1))
          case measure => omega
          case rel => exact ⟨k + 1, some x, hlt, Nat.le_refl _, rfl, by go_num, by (repeat (first | (with_reducible exact SinceOf.refl _) | (with_reducible assumption) | (with_reducible refine SinceOf.alloc ?_ _) | (with_reducible refine SinceOf.drew ?_) | (with_reducible refine SinceOf.drewN ?_ _) | (with_reducible refine SinceOf.later ?_ _) | (with_reducible refine SinceOf.further ?_ _) | (with_reducible refine SinceOf.setCell ?_ (by first | exact Nat.le_refl _ | (simp; done) | omega | (simp; omega)) _))), (HB.out.1.of (by (repeat (first | (with_reducible exact SinceOf.refl _) | (with_reducible assumption) | (with_reducible refine SinceOf.alloc ?_ _) | (with_reducible refine SinceOf.drew ?_) | (with_reducible refine SinceOf.drewN ?_ _) | (with_reducible refine SinceOf.later ?_ _) | (with_reducible refine SinceOf.further ?_ _) | (with_reducible refine SinceOf.setCell ?_ (by first | exact Nat.le_refl _ | (simp; done) | omega | (simp; omega)) _))))).set x, HB.out.2.2.symm⟩
        | some bx =>
          have hbx : betterS (some bx) (some x) = if x.stop < bx.stop then some x else some bx := rfl
          by_cases hlt2 : x.stop < bx.stop
          · have hd : decide (x.stop < bx.stop) = true := by simpa using hlt2
            rw [if_pos hlt2] at hbx
            have HX := Lib.hid hbx
            clear hbx
            simp only [slotOr, Option.getD_some] at b0 b1 b2 b3
            go_wp2_with fail
            (with_reducible refine (OK _ (by (repeat (first | (with_reducible exact SinceOf.refl _) | (with_reducible assumption) | (with_reducible refine SinceOf.alloc ?_ _) | (with_reducible refine SinceOf.drew ?_) | (with_reducible refine SinceOf.drewN ?_ _) | (with_reducible refine SinceOf.later ?_ _) | (with_reducible refine SinceOf.further ?_ _) | (with_reducible refine SinceOf.setCell ?_ (by first | exact Nat.le_refl _ | (simp; done) | omega | (simp; omega)) _))))).calls.mono ?_)
            rintro e _ ⟨rfl, x1, rfl⟩
            unfold slotOpt
            go_wp2_with fail
            go_roundg (ms.length - (k + 1))
            case measure => omega
            case rel => exact ⟨k + 1, some x, hlt, Nat.le_refl _, rfl, by go_num, by (repeat (first | (with_reducible exact SinceOf.refl _) | (with_reducible assumption) | (with_reducible refine SinceOf.alloc ?_ _) | (with_reducible refine SinceOf.drew ?_) | (with_reducible refine SinceOf.drewN ?_ _) | (with_reducible refine SinceOf.later ?_ _) | (with_reducible refine SinceOf.further ?_ _) | (with_reducible refine SinceOf.setCell ?_ (by first | exact Nat.le_refl _ | (simp; done) | omega | (simp; omega)) _))), (HB.out.1.of (by (repeat (first | (with_reducible exact SinceOf.refl _) | (with_reducible assumption) | (with_reducible refine SinceOf.alloc ?_ _) | (with_reducible refine SinceOf.drew ?_) | (with_reducible refine SinceOf.drewN ?_ _) | (with_reducible refine SinceOf.later ?_ _) | (with_reducible refine SinceOf.further ?_ _) | (with_reducible refine SinceOf.setCell ?_ (by first | exact Nat.le_refl _ | (simp; done) | omega | (simp; omega)) _))))).set x, by rw [HB.out.2.2, HX.out]⟩
          · have hd : decide (x.stop < bx.stop) = false := by simpa using hlt2
            rw [if_neg hlt2] at hbx
            have HX := Lib.hid hbx
            clear hbx
            simp only [slotOr, Option.getD_some] at b0 b1 b2 b3
            go_wp2_with fail
            (with_reducible refine (OK _ (by (repeat (first | (with_reducible exact SinceOf.refl _) | (with_reducible assumption) | (with_reducible refine SinceOf.alloc ?_ _) | (with_reducible refine SinceOf.drew ?_) | (with_reducible refine SinceOf.drewN ?_ _) | (with_reducible refine SinceOf.later ?_ _) | (with_reducible refine SinceOf.further ?_ _) | (with_reducible refine SinceOf.setCell ?_ (by first | exact Nat.le_refl _ | (simp; done) | omega | (simp; omega)) _))))).calls.mono ?_)
            rintro e _ ⟨rfl, x1, rfl⟩
            unfold slotOpt
            go_wp2_with fail
            go_roundg (ms.length - (k + 1))
            case measure => omega
            case rel => exact ⟨k + 1, some bx, hlt, Nat.le_refl _, rfl, by go_num, by (repeat (first | (with_reducible exact SinceOf.refl _) | (with_reducible assumption) | (with_reducible refine SinceOf.alloc ?_ _) | (with_reducible refine SinceOf.drew ?_) | (with_reducible refine SinceOf.drewN ?_ _) | (with_reducible refine SinceOf.later ?_ _) | (with_reducible refine SinceOf.further ?_ _) | (with_reducible refine SinceOf.setCell ?_ (by first | exact Nat.le_refl _ | (simp; done) | omega | (simp; omega)) _))), HB.out.1.of (by (repeat (first | (with_reducible exact SinceOf.refl _) | (with_reducible assumption) | (with_reducible refine SinceOf.alloc ?_ _) | (with_reducible refine SinceOf.drew ?_) | (with_reducible refine SinceOf.drewN ?_ _) | (with_reducible refine SinceOf.later ?_ _) | (with_reducible refine SinceOf.further ?_ _) | (with_reducible refine SinceOf.setCell ?_ (by first | exact Nat.le_refl _ | (simp; done) | omega | (simp; omega)) _)))), by rw [HB.out.2.2, HX.out]⟩
    · have hkl : k = ms.length := by omega
      rw [hkl, List.take_length, ← H.out.2.2.1] at hbe
      obtain ⟨b0, b1, b2, b3, e0, e1, e2, e3, hO2⟩ := hb
      have HB := Lib.hid hbe
      clear hbe hkl
      go_wp2_with fail
      go_returns
      refine ⟨?_, by (repeat (first | (with_reducible exact SinceOf.refl _) | (with_reducible assumption) | (with_reducible refine SinceOf.alloc ?_ _) | (with_reducible refine SinceOf.drew ?_) | (with_reducible refine SinceOf.drewN ?_ _) | (with_reducible refine SinceOf.later ?_ _) | (with_reducible refine SinceOf.further ?_ _) | (with_reducible refine SinceOf.setCell ?_ (by first | exact Nat.le_refl _ | (simp; done) | omega | (simp; omega)) _)))⟩
      rw [← HB.out]
      cases best <;> rfl
end Go.Proofs.Ytdcncalcncomoaa
/- Layer 52: List. -/
namespace Go.Proofs.Ytdcncalcncomoaa
open Go.RowKit Go.Sort
set_option linter.unusedVariables false
attribute [local go_sem ↓] Go.wp_at_zero Go.wp_at_succ

def listGo (s : ShopR) (L : List JobR) : List SlotR → List Int → List Int → Int × List SlotR × List Int
  | l, left, [] => (0, l, left)
  | l, left, j :: r => if askedE L l j = 0 then (match dispatchV s L l j with
      | some x => listGo s L (l ++ [x]) left r
      | none => listGo s L l (left ++ [j]) r) else (askedE L l j, [], [])
def listV (s : ShopR) (L : List JobR) (order : List Int) : Int × List SlotR × List Int := if checkS s L = true then listGo s L [] [] order else (1, [], [])
theorem firstFit_named {s : ShopR} {L : List JobR} {l : List SlotR} {jb m : Int} : ∀ {ts : List Int} {x : SlotR}, firstFit s L l jb m ts = some x → x.job = jb ∧ x.mach = m
  | [], x, h => by cases h
  | t :: ts, x, h => by
    unfold firstFit at h
    split at h
    · split at h
      · split at h
        · cases h; exact ⟨rfl, rfl⟩
        · exact firstFit_named h
      · cases h
    · cases h
theorem onV_named {s : ShopR} {L : List JobR} {l : List SlotR} {jb m : Int} {x : SlotR} (h : onV s L l jb m = some x) : x.job = jb ∧ x.mach = m := by
  unfold onV at h
  split at h
  · cases h
  · exact firstFit_named h
theorem best_named {s : ShopR} {L : List JobR} {l : List SlotR} {jb : Int} : ∀ (ms : List Int) (b : Option SlotR) (ms0 : List Int), (∀ m ∈ ms, m ∈ ms0) → (∀ x, b = some x → x.job = jb ∧ x.mach ∈ ms0) → ∀ x, ms.foldl (fun best m => betterS best (onV s L l jb m)) b = some x → x.job = jb ∧ x.mach ∈ ms0
  | [], b, ms0, _, hb, x, h => hb x h
  | m :: ms, b, ms0, hm, hb, x, h => by
    refine best_named ms _ ms0 (fun m' h' => hm m' (by simp [h'])) (fun y hy => ?_) x h
    have hy2 : betterS b (onV s L l jb m) = some y := hy
    cases hov : onV s L l jb m with
    | none => rw [hov] at hy2; exact hb y hy2
    | some x' =>
      rw [hov] at hy2
      have hn := onV_named hov
      have hmm := hm m (by simp)
      cases b with
      | none =>
        cases hy2
        exact ⟨hn.1, hn.2 ▸ hmm⟩
      | some b' =>
        have hy3 : (if x'.stop < b'.stop then some x' else some b') = some y := hy2
        by_cases hlt : x'.stop < b'.stop
        · rw [if_pos hlt] at hy3
          cases hy3
          exact ⟨hn.1, hn.2 ▸ hmm⟩
        · rw [if_neg hlt] at hy3
          exact hb y hy3
theorem dispatch_named {s : ShopR} {L : List JobR} {l : List SlotR} {jb : Int} {x : SlotR} (h : dispatchV s L l jb = some x) : x.job = jb ∧ x.mach ∈ (jobAt L jb).ms :=
  best_named _ none _ (fun _ h => h) (fun _ h => by cases h) x h
theorem check_machs {s : ShopR} {L : List JobR} (h : checkS s L = true) : ∀ j ∈ L, ∀ m ∈ j.ms, 0 ≤ m ∧ m < s.cals.length := by
  intro j hj m hm
  have h1 := (job_parts (check_job h hj)).1
  unfold machsB at h1
  obtain ⟨i, hi, rfl⟩ := List.mem_iff_getElem.1 hm
  have h2 := List.all_eq_true.1 h1 i (by simpa using hi)
  unfold machB at h2
  rw [List.getD_eq_getElem?_getD, List.getElem?_eq_getElem hi, Option.getD_some] at h2
  simp only [Bool.and_eq_true, decide_eq_true_eq] at h2
  omega
theorem infoInt : (Try.prog.info? 3).map (fun i => (i.zero, i.size, i.bytes)) = some (some (.int .i64 0), 1, 8) := by kernel_rfl
theorem encN_len (x : Int) : (encN x).length = 1 := rfl
theorem encN_one (x : Int) : ∀ u ∈ encN x, u.oneCell' = true := by intro u hu; simp [encN] at hu; subst hu; rfl
theorem rowN_at (W : World) (g : Nat) (x : Int) (t : TypeId) (hg : W.heap.size = g) : IsInts (W.alloc (.cells #[.int .i64 x] t)) (some ⟨g, 0, none⟩) 1 [x] := by
  subst hg
  refine ⟨(by intro h; cases h), .inr ⟨_, 0, rfl, ⟨fun i hi j u hu => ?_, inferInstance⟩⟩⟩
  obtain rfl : i = 0 := by simpa using hi
  match j, hu with
  | 0, hu => simp [encN] at hu; subst hu; simp
  | j + 1, hu => simp [encN] at hu
theorem asked_in {L : List JobR} {l : List SlotR} {j : Int} (h : askedE L l j = 0) : 0 ≤ j ∧ j < L.length := by
  unfold askedE at h
  split at h
  · cases h
  · rename_i hj
    unfold jobIn at hj
    simp at hj
    omega
set_option maxRecDepth 100000 in
set_option maxHeartbeats 8000000 in
theorem list_any (s : ShopR) (A : Option Addr) (c : Nat) (L : List JobR) (C : Option Addr) (d : Nat) (order : List Int) (w : World) (hs : IsShop w s) (h : IsJobs w A c L) (ho : IsInts w C d order) (hol : order.length < 1073741824) :
    Calls Try.prog 23 #[shopV s, .slice A L.length c, .slice C order.length d] w fun e w' => ∃ (B : Option Addr) (b : Nat) (E : Option Addr) (f : Nat), e = .returned (.tuple #[.slice B (listV s L order).2.1.length b, .slice E (listV s L order).2.2.length f, .int .i64 (listV s L order).1]) ∧ IsSlots w' B b (listV s L order).2.1 ∧ (listV s L order).2.1.length ≤ b ∧ IsInts w' E f (listV s L order).2.2 ∧ SinceOf w w' := by
  have CH := fun W hW => check_any s A c L W (hs.of hW) (h.of hW)
  obtain ⟨res, hres⟩ : ∃ v, v = listV s L order := ⟨_, rfl⟩
  rw [← hres]
  unfold listV at hres
  cases hc : checkS s L
  · rw [hc] at CH hres
    simp at hres
    subst hres
    clear hs h ho hc
    go_enter Try.func23, Try.ntmps23
    go_wp2_with fail
    refine (CH _ (by (repeat (first | (with_reducible exact SinceOf.refl _) | (with_reducible assumption) | (with_reducible refine SinceOf.alloc ?_ _) | (with_reducible refine SinceOf.drew ?_) | (with_reducible refine SinceOf.drewN ?_ _) | (with_reducible refine SinceOf.later ?_ _) | (with_reducible refine SinceOf.further ?_ _) | (with_reducible refine SinceOf.setCell ?_ (by first | exact Nat.le_refl _ | (simp; done) | omega | (simp; omega)) _))))).calls.mono ?_
    rintro e _ ⟨rfl, x1, rfl⟩
    go_wp2_with fail
    go_returns
    exact ⟨none, 0, none, 0, rfl, IsRow.nil _ _ _, by simp, IsRow.nil _ _ _, by (repeat (first | (with_reducible exact SinceOf.refl _) | (with_reducible assumption) | (with_reducible refine SinceOf.alloc ?_ _) | (with_reducible refine SinceOf.drew ?_) | (with_reducible refine SinceOf.drewN ?_ _) | (with_reducible refine SinceOf.later ?_ _) | (with_reducible refine SinceOf.further ?_ _) | (with_reducible refine SinceOf.setCell ?_ (by first | exact Nat.le_refl _ | (simp; done) | omega | (simp; omega)) _)))⟩
  · have gp := check_good hc
    have hord : ∀ j ∈ L, 0 ≤ j.ord ∧ j.ord ≤ 1000 := fun j hj => (job_parts (check_job hc hj)).2.2.2.2.2.2
    have hmc := check_machs hc
    rw [hc, if_pos rfl] at hres
    rw [hc] at CH
    have AS := fun B' d' (l : List SlotR) j W (hl : IsSlots W B' d' l) (hll : l.length < 1073741824) => asked_any A c L B' d' l j W h.len hl (by omega)
    have DI := fun B' d' (l : List SlotR) (jb : Nat) W (hW : SinceOf w W) (hl : IsSlots W B' d' l) (hll : l.length < 1073741824) (hn : NamedS s L l) (hjb : jb < L.length) => dispatch_any s A c L B' d' l jb W (hs.of hW) (h.of hW) gp hord hmc hl hll hn hjb
    obtain ⟨i0, hi, hz0, hz1, hz2⟩ := info_parts infoSlot2
    obtain ⟨n0, ni, nz0, nz1, nz2⟩ := info_parts infoInt
    have HI := Lib.hid (And.intro hi (And.intro hz0 (And.intro hz1 hz2)))
    have NI := Lib.hid (And.intro ni (And.intro nz0 (And.intro nz1 nz2)))
    have hname : ∀ (l : List SlotR) (jb : Nat) (x : SlotR), jb < L.length → NamedS s L l → dispatchV s L l jb = some x → NamedS s L (l ++ [x]) := by
      intro l jb x hjb hn hx y hy
      rcases List.mem_append.1 hy with hy | hy
      · exact hn y hy
      · rw [List.mem_singleton] at hy
        subst hy
        obtain ⟨h1, h2⟩ := dispatch_named hx
        have h3 := hmc _ (by rw [jobAt_at hjb]; exact List.getElem_mem hjb) _ h2
        rw [nameB_iff, h1]; omega
    obtain ⟨sA, sc, cals, sB, sd, R, most⟩ := s
    have H := Lib.hid (And.intro ho (And.intro hres (And.intro hname (And.intro AS DI))))
    clear hs h ho hc gp hord hmc hres hname AS DI hi hz0 hz1 hz2 ni nz0 nz1 nz2
    go_enter Try.func23, Try.ntmps23
    go_wp2_with fail
    refine (CH _ (by (repeat (first | (with_reducible exact SinceOf.refl _) | (with_reducible assumption) | (with_reducible refine SinceOf.alloc ?_ _) | (with_reducible refine SinceOf.drew ?_) | (with_reducible refine SinceOf.drewN ?_ _) | (with_reducible refine SinceOf.later ?_ _) | (with_reducible refine SinceOf.further ?_ _) | (with_reducible refine SinceOf.setCell ?_ (by first | exact Nat.le_refl _ | (simp; done) | omega | (simp; omega)) _))))).calls.mono ?_
    rintro e _ ⟨rfl, x1, rfl⟩
    clear CH
    go_wp2_with fail
    go_loopg [6, 7, 20] order.length (fun gas s6 s7 s20 wr => ∃ (k : Nat) (l : List SlotR) (left : List Int) (B : Option Addr) (b : Nat) (E : Option Addr) (f : Nat), k ≤ order.length ∧ order.length - k ≤ gas ∧ s6 = .slice B l.length b ∧ s7 = .slice E left.length f ∧ s20 = .int .i64 k ∧ Owns encS 4 (w.heap.size + 1) 34 wr B b l ∧ Owns encN 1 (w.heap.size + 1) 3 wr E f left ∧ (∀ q, blockOf B = some q → blockOf E ≠ some q) ∧ l.length ≤ k ∧ left.length ≤ k ∧ NamedS ⟨sA, sc, cals, sB, sd, R, most⟩ L l ∧ SinceOf (w.alloc (.cells #[.slice sA cals.length sc, .slice sB R.length sd, .int .i64 most] 40)) wr ∧ res = listGo ⟨sA, sc, cals, sB, sd, R, most⟩ L l left (order.drop k))
    case atStart => exact ⟨0, [], [], none, 0, none, 0, by omega, by omega, rfl, rfl, rfl, Owns.nil _ _ _ _ _, Owns.nil _ _ _ _ _, by simp [blockOf], by simp, by simp, (by intro y hy; simp at hy), by (repeat (first | (with_reducible exact SinceOf.refl _) | (with_reducible assumption) | (with_reducible refine SinceOf.alloc ?_ _) | (with_reducible refine SinceOf.drew ?_) | (with_reducible refine SinceOf.drewN ?_ _) | (with_reducible refine SinceOf.later ?_ _) | (with_reducible refine SinceOf.further ?_ _) | (with_reducible refine SinceOf.setCell ?_ (by first | exact Nat.le_refl _ | (simp; done) | omega | (simp; omega)) _))), by rw [List.drop_zero]; exact H.out.2.1⟩
    case round =>
      obtain ⟨k, l, left, B, b, E, f, hk, hgas, rfl, rfl, rfl, hob, hoe, hne, hlk, hek, hnm, ⟨z, rfl⟩, hr⟩ := hrel
      by_cases hlt : k < order.length
      · rw [List.drop_eq_getElem_cons hlt, listGo] at hr
        obtain ⟨go, oo, hCo, hro⟩ := (H.out.1.of (show SinceOf w z.wd by (repeat (first | (with_reducible exact SinceOf.refl _) | (with_reducible assumption) | (with_reducible refine SinceOf.alloc ?_ _) | (with_reducible refine SinceOf.drew ?_) | (with_reducible refine SinceOf.drewN ?_ _) | (with_reducible refine SinceOf.later ?_ _) | (with_reducible refine SinceOf.further ?_ _) | (with_reducible refine SinceOf.setCell ?_ (by first | exact Nat.le_refl _ | (simp; done) | omega | (simp; omega)) _))))).at_ (by omega)
        subst hCo
        have hOo := hro.there
        have n1 := hro.n0 k hlt
        have AK := H.out.2.2.2.1 B b l order[k]
        have DK := H.out.2.2.2.2 B b l
        have hnx := H.out.2.2.1 l
        have hin : askedE L l order[k] = 0 → 0 ≤ order[k] ∧ order[k] < L.length := asked_in
        generalize order[k] = j at *
        generalize askedE L l j = ae at *
        clear hro
        by_cases h0 : ae = 0
        · subst h0
          rw [if_pos rfl] at hr
          obtain ⟨hj0, hj1⟩ := hin rfl
          obtain ⟨jb, rfl⟩ : ∃ q : Nat, j = q := ⟨j.toNat, by omega⟩
          have DJ := DK jb
          have hnj := hnx jb
          generalize dispatchV ⟨sA, sc, cals, sB, sd, R, most⟩ L l jb = dv at *
          have HG := Lib.hid (And.intro hob (And.intro hoe (And.intro hne (And.intro hnm (And.intro hr (And.intro hnj hj1))))))
          clear hob hoe hne hnm hr hnj hin hnx DK
          cases dv with
          | none =>
            go_wp2_with fail
            (with_reducible refine (AK _ (HG.out.1.isRow encS_len) (by omega)).calls.mono ?_)
            rintro e _ ⟨rfl, x2, rfl⟩
            go_wp2_with fail
            (with_reducible refine (DJ _ (by (repeat (first | (with_reducible exact SinceOf.refl _) | (with_reducible assumption) | (with_reducible refine SinceOf.alloc ?_ _) | (with_reducible refine SinceOf.drew ?_) | (with_reducible refine SinceOf.drewN ?_ _) | (with_reducible refine SinceOf.later ?_ _) | (with_reducible refine SinceOf.further ?_ _) | (with_reducible refine SinceOf.setCell ?_ (by first | exact Nat.le_refl _ | (simp; done) | omega | (simp; omega)) _)))) ((HG.out.1.isRow encS_len).of (by (repeat (first | (with_reducible exact SinceOf.refl _) | (with_reducible assumption) | (with_reducible refine SinceOf.alloc ?_ _) | (with_reducible refine SinceOf.drew ?_) | (with_reducible refine SinceOf.drewN ?_ _) | (with_reducible refine SinceOf.later ?_ _) | (with_reducible refine SinceOf.further ?_ _) | (with_reducible refine SinceOf.setCell ?_ (by first | exact Nat.le_refl _ | (simp; done) | omega | (simp; omega)) _))))) (by omega) HG.out.2.2.2.1 (by have := HG.out.2.2.2.2.2.2; omega)).calls.mono ?_)
            rintro e _ ⟨rfl, x3, rfl⟩
            unfold slotOpt
            go_wp2_with (at_builtin; refine wpList_append_row rfl (.tmp 44) (.tmp 46) 51 rfl encN_len (by omega) encN_one n0 _ 8 Try.underlying51 NI.out.1 NI.out.2.1 NI.out.2.2.1 NI.out.2.2.2 rfl (l := left) (A := E) (c := f) (base := w.heap.size + 1) rfl (HG.out.2.1.of (by (repeat (first | (with_reducible exact SinceOf.refl _) | (with_reducible assumption) | (with_reducible refine SinceOf.alloc ?_ _) | (with_reducible refine SinceOf.drew ?_) | (with_reducible refine SinceOf.drewN ?_ _) | (with_reducible refine SinceOf.later ?_ _) | (with_reducible refine SinceOf.further ?_ _) | (with_reducible refine SinceOf.setCell ?_ (by first | exact Nat.le_refl _ | (simp; done) | omega | (simp; omega)) _))))) (m := [(jb : Int)]) rfl (rowN_at _ _ _ _ (by first | rfl | simp)) (by unfold maxLen; simp; omega) (by simp; omega) (by have h1 := z.size; have h2 := x2.size; have h3 := x3.size; simp at h1 ⊢; omega) ?_; intro E3 f3 w3 hown3 hgr3 hbl3)
            go_roundg (order.length - (k + 1))
            case measure => omega
            case rel =>
              have hbB := HG.out.1.below
              have hz := x2.size
              have hz3 := x3.size
              refine ⟨k + 1, l, left ++ [(jb : Int)], B, b, E3, f3, hlt, Nat.le_refl _, rfl, by rw [List.length_append]; rfl, by go_num, ?_, hown3, ?_, by omega, by simp; omega, HG.out.2.2.2.1, ?_, HG.out.2.2.2.2.1⟩
              · refine (HG.out.1.of (by (repeat (first | (with_reducible exact SinceOf.refl _) | (with_reducible assumption) | (with_reducible refine SinceOf.alloc ?_ _) | (with_reducible refine SinceOf.drew ?_) | (with_reducible refine SinceOf.drewN ?_ _) | (with_reducible refine SinceOf.later ?_ _) | (with_reducible refine SinceOf.further ?_ _) | (with_reducible refine SinceOf.setCell ?_ (by first | exact Nat.le_refl _ | (simp; done) | omega | (simp; omega)) _))))).kept hgr3 ?_
                cases hq : blockOf B with
                | none => exact .inl rfl
                | some q => exact .inr (fun e => HG.out.2.2.1 q hq e.symm)
              · intro q hq e
                rcases hbl3 with h | h
                · rw [h] at e; exact HG.out.2.2.1 q hq e
                · rw [h] at e; simp at e; have := (hbB q hq).2; omega
              · exact SinceOf.grown (by (repeat (first | (with_reducible exact SinceOf.refl _) | (with_reducible assumption) | (with_reducible refine SinceOf.alloc ?_ _) | (with_reducible refine SinceOf.drew ?_) | (with_reducible refine SinceOf.drewN ?_ _) | (with_reducible refine SinceOf.later ?_ _) | (with_reducible refine SinceOf.further ?_ _) | (with_reducible refine SinceOf.setCell ?_ (by first | exact Nat.le_refl _ | (simp; done) | omega | (simp; omega)) _)))) hgr3 (fun q hq => by have := (HG.out.2.1.below q hq).1; simpa using this)
          | some x =>
            go_wp2_with fail
            (with_reducible refine (AK _ (HG.out.1.isRow encS_len) (by omega)).calls.mono ?_)
            rintro e _ ⟨rfl, x2, rfl⟩
            go_wp2_with fail
            (with_reducible refine (DJ _ (by (repeat (first | (with_reducible exact SinceOf.refl _) | (with_reducible assumption) | (with_reducible refine SinceOf.alloc ?_ _) | (with_reducible refine SinceOf.drew ?_) | (with_reducible refine SinceOf.drewN ?_ _) | (with_reducible refine SinceOf.later ?_ _) | (with_reducible refine SinceOf.further ?_ _) | (with_reducible refine SinceOf.setCell ?_ (by first | exact Nat.le_refl _ | (simp; done) | omega | (simp; omega)) _)))) ((HG.out.1.isRow encS_len).of (by (repeat (first | (with_reducible exact SinceOf.refl _) | (with_reducible assumption) | (with_reducible refine SinceOf.alloc ?_ _) | (with_reducible refine SinceOf.drew ?_) | (with_reducible refine SinceOf.drewN ?_ _) | (with_reducible refine SinceOf.later ?_ _) | (with_reducible refine SinceOf.further ?_ _) | (with_reducible refine SinceOf.setCell ?_ (by first | exact Nat.le_refl _ | (simp; done) | omega | (simp; omega)) _))))) (by omega) HG.out.2.2.2.1 (by have := HG.out.2.2.2.2.2.2; omega)).calls.mono ?_)
            rintro e _ ⟨rfl, x3, rfl⟩
            unfold slotOpt
            go_wp2_with (at_builtin; refine wpList_append_row rfl (.tmp 40) (.tmp 42) 44 rfl encS_len (by omega) encS_one i0 _ 32 Try.underlying44 HI.out.1 HI.out.2.1 HI.out.2.2.1 HI.out.2.2.2 rfl (l := l) (A := B) (c := b) (base := w.heap.size + 1) rfl (HG.out.1.of (by (repeat (first | (with_reducible exact SinceOf.refl _) | (with_reducible assumption) | (with_reducible refine SinceOf.alloc ?_ _) | (with_reducible refine SinceOf.drew ?_) | (with_reducible refine SinceOf.drewN ?_ _) | (with_reducible refine SinceOf.later ?_ _) | (with_reducible refine SinceOf.further ?_ _) | (with_reducible refine SinceOf.setCell ?_ (by first | exact Nat.le_refl _ | (simp; done) | omega | (simp; omega)) _))))) (m := [x]) rfl (rowS_at _ _ x _ (by first | rfl | simp)) (by unfold maxLen; simp; omega) (by simp; omega) (by have h1 := z.size; have h2 := x2.size; have h3 := x3.size; simp at h1 ⊢; omega) ?_; intro B3 b3 w3 hown3 hgr3 hbl3)
            go_roundg (order.length - (k + 1))
            case measure => omega
            case rel =>
              have hbE := HG.out.2.1.below
              have hz := x2.size
              have hz3 := x3.size
              refine ⟨k + 1, l ++ [x], left, B3, b3, E, f, hlt, Nat.le_refl _, by rw [List.length_append]; rfl, rfl, by go_num, hown3, ?_, ?_, by simp; omega, by omega, HG.out.2.2.2.2.2.1 x (by have := HG.out.2.2.2.2.2.2; omega) HG.out.2.2.2.1 rfl, ?_, HG.out.2.2.2.2.1⟩
              · refine (HG.out.2.1.of (by (repeat (first | (with_reducible exact SinceOf.refl _) | (with_reducible assumption) | (with_reducible refine SinceOf.alloc ?_ _) | (with_reducible refine SinceOf.drew ?_) | (with_reducible refine SinceOf.drewN ?_ _) | (with_reducible refine SinceOf.later ?_ _) | (with_reducible refine SinceOf.further ?_ _) | (with_reducible refine SinceOf.setCell ?_ (by first | exact Nat.le_refl _ | (simp; done) | omega | (simp; omega)) _))))).kept hgr3 ?_
                cases hq : blockOf E with
                | none => exact .inl rfl
                | some q => exact .inr (fun e => HG.out.2.2.1 q e.symm hq)
              · intro q hq e
                rcases hbl3 with h | h
                · rw [h] at hq; exact HG.out.2.2.1 q hq e
                · rw [h] at hq; simp at hq; have := (hbE q e).2; omega
              · exact SinceOf.grown (by (repeat (first | (with_reducible exact SinceOf.refl _) | (with_reducible assumption) | (with_reducible refine SinceOf.alloc ?_ _) | (with_reducible refine SinceOf.drew ?_) | (with_reducible refine SinceOf.drewN ?_ _) | (with_reducible refine SinceOf.later ?_ _) | (with_reducible refine SinceOf.further ?_ _) | (with_reducible refine SinceOf.setCell ?_ (by first | exact Nat.le_refl _ | (simp; done) | omega | (simp; omega)) _)))) hgr3 (fun q hq => by have := (HG.out.1.below q hq).1; simpa using this)
        · rw [if_neg h0] at hr
          have hab : (ae != 0) = true := by simpa using h0
          have HG := Lib.hid (And.intro hob hr)
          clear hob hr hoe hne hnm hnx hin h0 DK
          go_wp2_with fail
          (with_reducible refine (AK _ (HG.out.1.isRow encS_len) (by omega)).calls.mono ?_)
          rintro e _ ⟨rfl, x2, rfl⟩
          go_wp2_with fail
          go_returns
          rw [HG.out.2]
          exact ⟨none, 0, none, 0, rfl, IsRow.nil _ _ _, by simp, IsRow.nil _ _ _, by (repeat (first | (with_reducible exact SinceOf.refl _) | (with_reducible assumption) | (with_reducible refine SinceOf.alloc ?_ _) | (with_reducible refine SinceOf.drew ?_) | (with_reducible refine SinceOf.drewN ?_ _) | (with_reducible refine SinceOf.later ?_ _) | (with_reducible refine SinceOf.further ?_ _) | (with_reducible refine SinceOf.setCell ?_ (by first | exact Nat.le_refl _ | (simp; done) | omega | (simp; omega)) _)))⟩
      · have hkl : k = order.length := by omega
        rw [hkl, List.drop_length, listGo] at hr
        have HG := Lib.hid (And.intro hob (And.intro hoe hr))
        clear hob hoe hr hne hnm hkl
        go_wp2_with fail
        go_returns
        rw [HG.out.2.2]
        exact ⟨B, b, E, f, rfl, HG.out.1.isRow encS_len, HG.out.1.le_cap, HG.out.2.1.isRow encN_len, by (repeat (first | (with_reducible exact SinceOf.refl _) | (with_reducible assumption) | (with_reducible refine SinceOf.alloc ?_ _) | (with_reducible refine SinceOf.drew ?_) | (with_reducible refine SinceOf.drewN ?_ _) | (with_reducible refine SinceOf.later ?_ _) | (with_reducible refine SinceOf.further ?_ _) | (with_reducible refine SinceOf.setCell ?_ (by first | exact Nat.le_refl _ | (simp; done) | omega | (simp; omega)) _)))⟩
end Go.Proofs.Ytdcncalcncomoaa
