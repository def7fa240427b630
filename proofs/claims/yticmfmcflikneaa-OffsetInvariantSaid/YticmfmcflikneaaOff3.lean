/- Layer 18: lists of rings; SameRings, Few and modest. -/
import Derived.Test.YticmfmcflikneaaHull25
import Derived.Test.YticmfmcflikneaaSame
namespace Go.Proofs.Yticmfmcflikneaa
open Go.RowKit Go.Sort
set_option linter.unusedVariables false
set_option linter.unusedSimpArgs false
attribute [local go_sem ↓] Go.wp_at_zero Go.wp_at_succ

/-- A ring in a list of rings. -/
structure RgR where
  A : Option Addr
  c : Nat
  xs : List Pt
def encG (x : RgR) : List Value := [.slice x.A x.xs.length x.c]
theorem encG_len (x : RgR) : (encG x).length = 1 := rfl
theorem encG_one (x : RgR) : ∀ u ∈ encG x, u.oneCell' = true := by
  intro u hu
  simp only [encG, List.mem_cons, List.not_mem_nil, or_false] at hu
  subst hu
  rfl
structure IsRings (w : World) (A : Option Addr) (c : Nat) (X : List RgR) : Prop where
  row : IsRow encG 1 w A c X
  all : ∀ x ∈ X, IsVecs w x.A x.c x.xs ∧ x.xs.length < 4611686018427387904
  len : X.length < 4611686018427387904
theorem IsRings.of {w w' : World} {A : Option Addr} {c : Nat} {X : List RgR} (h : IsRings w A c X) (hs : SinceOf w w') : IsRings w' A c X := ⟨h.row.of hs, fun x hx => ⟨(h.all x hx).1.of hs, (h.all x hx).2⟩, h.len⟩
theorem RowAt.g0 {w : World} {g off : Nat} {l : List RgR} (h : RowAt encG 1 w g off l) (i : Nat) (hi : i < l.length) : w.cell? ⟨g, off + i, none⟩ = some (.slice l[i].A l[i].xs.length l[i].c) := by
  have := h.cells i hi 0 _ rfl
  simpa using this
/-- The vertices of the rings of a list. -/
def vxs (X : List RgR) : List (List Pt) := X.map RgR.xs
theorem vxs_len (X : List RgR) : (vxs X).length = X.length := List.length_map _
set_option maxRecDepth 100000 in
theorem sameVecs_any (A B : Option Addr) (c d : Nat) (l m : List (Int × Int)) (w : World) (hl : IsVecs w A c l) (hm : IsVecs w B d m) (hn : l.length < 4611686018427387904) (hn2 : m.length < 4611686018427387904) :
    Gives Try.prog 89 #[.slice A l.length c, .slice B m.length d] w (.bool (decide (l = m))) := by
  apply Gives.ret
  by_cases hlen : l.length = m.length
  · have H := Lib.hid (And.intro hl hm)
    clear hl hm
    rw [← hlen]
    go_enter Try.func89, Try.ntmps89
    go_wp2
    go_loopg [5] l.length (fun n s5 wr => ∃ k : Nat, k ≤ l.length ∧ l.length - k ≤ n ∧ s5 = .int .i64 k ∧ LaterOf w wr ∧ l.take k = m.take k)
    case atStart => exact ⟨0, by omega, by omega, rfl, by (repeat (first | (with_reducible exact LaterOf.refl _) | (with_reducible refine LaterOf.alloc ?_ _) | (with_reducible refine LaterOf.drew ?_) | (with_reducible refine LaterOf.drewN ?_ _) | (with_reducible refine LaterOf.later ?_ _) | (with_reducible refine LaterOf.setCell ?_ (by first | exact Nat.le_refl _ | (simp; done) | omega | (simp; omega)) _))), by simp⟩
    case round =>
      obtain ⟨k, hk, hg, rfl, ⟨z, rfl⟩, heq⟩ := hrel
      have E := Lib.hid heq
      clear heq
      by_cases hlt : k < l.length
      · have hlt2 : k < m.length := by omega
        obtain ⟨g, off, rfl, hr⟩ := (H.out.1.later z).at_ (by omega)
        obtain ⟨g2, off2, rfl, hr2⟩ := (H.out.2.later z).at_ (by omega)
        have hO := hr.there
        have hO2 := hr2.there
        have c0 := hr.v0 k hlt
        have c1 := hr.v1 k hlt
        have d0 := hr2.v0 k hlt2
        have d1 := hr2.v1 k hlt2
        clear hr hr2
        obtain ⟨⟨x, y⟩, hx⟩ : ∃ q, q = l[k] := ⟨_, rfl⟩
        obtain ⟨⟨u, v⟩, hu⟩ : ∃ q, q = m[k] := ⟨_, rfl⟩
        rw [← hx] at c0 c1
        rw [← hu] at d0 d1
        have B := Lib.hid (And.intro hx hu)
        clear hx hu
        simp only at c0 c1 d0 d1
        by_cases hdup : eqv x y u v = true
        · go_wp2_with fail
          refine region_later (by kernel_rfl) (by kernel_rfl) ?_
          repeat (go_big_quiet_step (fail))
          refine wpQuiet_nil ?_
          rintro _ ⟨z2, rfl⟩
          go_wp2_with fail
          go_roundg (l.length - (k + 1))
          case measure => omega
          case rel =>
            refine ⟨k + 1, hlt, Nat.le_refl _, by go_num, by (repeat (first | (with_reducible exact LaterOf.refl _) | (with_reducible refine LaterOf.alloc ?_ _) | (with_reducible refine LaterOf.drew ?_) | (with_reducible refine LaterOf.drewN ?_ _) | (with_reducible refine LaterOf.later ?_ _) | (with_reducible refine LaterOf.setCell ?_ (by first | exact Nat.le_refl _ | (simp; done) | omega | (simp; omega)) _))), ?_⟩
            obtain ⟨rfl, rfl⟩ := eqv_iff.1 hdup
            rw [List.take_succ_eq_append_getElem hlt, List.take_succ_eq_append_getElem hlt2, E.out, ← B.out.1, ← B.out.2]
        · have hne : eqv x y u v = false := by simpa using hdup
          have hno : decide (l = m) = false := by
            rw [decide_eq_false_iff_not]
            rintro rfl
            have := B.out.1.trans B.out.2.symm
            injection this with h1 h2
            rw [h1, h2, eqv_self] at hne
            cases hne
          clear hdup
          have HN := Lib.hid hno
          clear hno
          go_wp2_with fail
          refine region_later (by kernel_rfl) (by kernel_rfl) ?_
          repeat (go_big_quiet_step (fail))
          refine wpQuiet_nil ?_
          rintro _ ⟨z2, rfl⟩
          go_wp2_with fail
          go_returns
          rw [HN.out]
          exact ⟨rfl, by (repeat (first | (with_reducible exact LaterOf.refl _) | (with_reducible refine LaterOf.alloc ?_ _) | (with_reducible refine LaterOf.drew ?_) | (with_reducible refine LaterOf.drewN ?_ _) | (with_reducible refine LaterOf.later ?_ _) | (with_reducible refine LaterOf.setCell ?_ (by first | exact Nat.le_refl _ | (simp; done) | omega | (simp; omega)) _)))⟩
      · have hkl : k = l.length := by omega
        have hyes : decide (l = m) = true := by
          have e := E.out
          rw [hkl, List.take_length, hlen, List.take_length] at e
          simpa using e
        have HY := Lib.hid hyes
        clear hyes
        go_wp2_with fail
        go_returns
        rw [HY.out]
        exact ⟨rfl, by (repeat (first | (with_reducible exact LaterOf.refl _) | (with_reducible refine LaterOf.alloc ?_ _) | (with_reducible refine LaterOf.drew ?_) | (with_reducible refine LaterOf.drewN ?_ _) | (with_reducible refine LaterOf.later ?_ _) | (with_reducible refine LaterOf.setCell ?_ (by first | exact Nat.le_refl _ | (simp; done) | omega | (simp; omega)) _)))⟩
  · have hno : decide (l = m) = false := by
      rw [decide_eq_false_iff_not]; rintro rfl; exact hlen rfl
    rw [hno]
    clear hl hm hno
    go_enter Try.func89, Try.ntmps89
    go_wp2
    go_returns
    exact ⟨rfl, by (repeat (first | (with_reducible exact LaterOf.refl _) | (with_reducible refine LaterOf.alloc ?_ _) | (with_reducible refine LaterOf.drew ?_) | (with_reducible refine LaterOf.drewN ?_ _) | (with_reducible refine LaterOf.later ?_ _) | (with_reducible refine LaterOf.setCell ?_ (by first | exact Nat.le_refl _ | (simp; done) | omega | (simp; omega)) _)))⟩


theorem vxs_take (X : List RgR) (k : Nat) : vxs (X.take k) = (vxs X).take k := List.map_take
set_option maxRecDepth 100000 in
set_option maxHeartbeats 8000000 in
theorem sameRings_any (A B : Option Addr) (c d : Nat) (X Y : List RgR) (w : World) (hl : IsRings w A c X) (hm : IsRings w B d Y) :
    Gives Try.prog 56 #[.slice A X.length c, .slice B Y.length d] w (.bool (decide (vxs X = vxs Y))) := by
  apply Gives.ret
  have hn := hl.len
  have hn2 := hm.len
  by_cases hlen : X.length = Y.length
  · have H := Lib.hid (And.intro hl hm)
    clear hl hm
    rw [← hlen]
    go_enter Try.func56, Try.ntmps56
    go_wp2_with fail
    go_loopg [5] X.length (fun n s5 wr => ∃ k : Nat, k ≤ X.length ∧ X.length - k ≤ n ∧ s5 = .int .i64 k ∧ LaterOf w wr ∧ vxs (X.take k) = vxs (Y.take k))
    case atStart => exact ⟨0, by omega, by omega, rfl, by (repeat (first | (with_reducible exact LaterOf.refl _) | (with_reducible refine LaterOf.alloc ?_ _) | (with_reducible refine LaterOf.drew ?_) | (with_reducible refine LaterOf.drewN ?_ _) | (with_reducible refine LaterOf.later ?_ _) | (with_reducible refine LaterOf.setCell ?_ (by first | exact Nat.le_refl _ | (simp; done) | omega | (simp; omega)) _))), by simp⟩
    case round =>
      obtain ⟨k, hk, hg, rfl, ⟨z, rfl⟩, heq⟩ := hrel
      have E := Lib.hid heq
      clear heq
      by_cases hlt : k < X.length
      · have hlt2 : k < Y.length := by omega
        have hX := H.out.1.of (w' := z.wd) (by (repeat (first | (with_reducible exact SinceOf.refl _) | (with_reducible assumption) | (with_reducible refine SinceOf.alloc ?_ _) | (with_reducible refine SinceOf.drew ?_) | (with_reducible refine SinceOf.drewN ?_ _) | (with_reducible refine SinceOf.later ?_ _) | (with_reducible refine SinceOf.further ?_ _) | (with_reducible refine SinceOf.setCell ?_ (by first | exact Nat.le_refl _ | (simp; done) | omega | (simp; omega)) _))))
        have hY := H.out.2.of (w' := z.wd) (by (repeat (first | (with_reducible exact SinceOf.refl _) | (with_reducible assumption) | (with_reducible refine SinceOf.alloc ?_ _) | (with_reducible refine SinceOf.drew ?_) | (with_reducible refine SinceOf.drewN ?_ _) | (with_reducible refine SinceOf.later ?_ _) | (with_reducible refine SinceOf.further ?_ _) | (with_reducible refine SinceOf.setCell ?_ (by first | exact Nat.le_refl _ | (simp; done) | omega | (simp; omega)) _))))
        have x1 := hX.all _ (List.getElem_mem hlt)
        have y1 := hY.all _ (List.getElem_mem hlt2)
        obtain ⟨g, off, rfl, hr⟩ := hX.row.at_ (by omega)
        obtain ⟨g2, off2, rfl, hr2⟩ := hY.row.at_ (by omega)
        have hO := hr.there
        have hO2 := hr2.there
        have c0 := hr.g0 k hlt
        have d0 := hr2.g0 k hlt2
        clear hr hr2
        obtain ⟨x, hx⟩ : ∃ q, q = X[k] := ⟨_, rfl⟩
        obtain ⟨y, hy⟩ : ∃ q, q = Y[k] := ⟨_, rfl⟩
        rw [← hx] at c0 x1
        rw [← hy] at d0 y1
        have S := fun W (hW : SinceOf z.wd W) => sameVecs_any x.A y.A x.c y.c x.xs y.xs W (x1.1.of hW) (y1.1.of hW) x1.2 y1.2
        have B := Lib.hid (And.intro hx hy)
        clear hx hy hX hY x1 y1
        by_cases hdup : x.xs = y.xs
        · rw [decide_eq_true hdup] at S
          have HD := Lib.hid hdup
          clear hdup
          go_wp2_with fail
          refine region_later (by kernel_rfl) (by kernel_rfl) ?_
          repeat (go_big_quiet_step ((with_reducible refine Gives.later (S _ (by (repeat (first | (with_reducible exact SinceOf.refl _) | (with_reducible assumption) | (with_reducible refine SinceOf.alloc ?_ _) | (with_reducible refine SinceOf.drew ?_) | (with_reducible refine SinceOf.drewN ?_ _) | (with_reducible refine SinceOf.later ?_ _) | (with_reducible refine SinceOf.further ?_ _) | (with_reducible refine SinceOf.setCell ?_ (by first | exact Nat.le_refl _ | (simp; done) | omega | (simp; omega)) _))))))))
          refine wpQuiet_nil ?_
          rintro _ ⟨z2, rfl⟩
          go_wp2_with fail
          go_roundg (X.length - (k + 1))
          case measure => omega
          case rel =>
            refine ⟨k + 1, hlt, Nat.le_refl _, by go_num, by (repeat (first | (with_reducible exact LaterOf.refl _) | (with_reducible refine LaterOf.alloc ?_ _) | (with_reducible refine LaterOf.drew ?_) | (with_reducible refine LaterOf.drewN ?_ _) | (with_reducible refine LaterOf.later ?_ _) | (with_reducible refine LaterOf.setCell ?_ (by first | exact Nat.le_refl _ | (simp; done) | omega | (simp; omega)) _))), ?_⟩
            rw [List.take_succ_eq_append_getElem hlt, List.take_succ_eq_append_getElem hlt2, ← B.out.1, ← B.out.2]
            unfold vxs at *
            rw [List.map_append, List.map_append, E.out]
            simp [HD.out]
        · rw [decide_eq_false hdup] at S
          have hno : decide (vxs X = vxs Y) = false := by
            rw [decide_eq_false_iff_not]
            intro e
            apply hdup
            have e1 : (vxs X)[k]? = some x.xs := by unfold vxs; rw [List.getElem?_map, List.getElem?_eq_getElem hlt, ← B.out.1]; rfl
            have e2 : (vxs Y)[k]? = some y.xs := by unfold vxs; rw [List.getElem?_map, List.getElem?_eq_getElem hlt2, ← B.out.2]; rfl
            rw [e, e2] at e1
            exact (Option.some.inj e1).symm
          clear hdup
          have HN := Lib.hid hno
          clear hno
          go_wp2_with fail
          refine region_later (by kernel_rfl) (by kernel_rfl) ?_
          repeat (go_big_quiet_step ((with_reducible refine Gives.later (S _ (by (repeat (first | (with_reducible exact SinceOf.refl _) | (with_reducible assumption) | (with_reducible refine SinceOf.alloc ?_ _) | (with_reducible refine SinceOf.drew ?_) | (with_reducible refine SinceOf.drewN ?_ _) | (with_reducible refine SinceOf.later ?_ _) | (with_reducible refine SinceOf.further ?_ _) | (with_reducible refine SinceOf.setCell ?_ (by first | exact Nat.le_refl _ | (simp; done) | omega | (simp; omega)) _))))))))
          refine wpQuiet_nil ?_
          rintro _ ⟨z2, rfl⟩
          go_wp2_with fail
          go_returns
          rw [HN.out]
          exact ⟨rfl, by (repeat (first | (with_reducible exact LaterOf.refl _) | (with_reducible refine LaterOf.alloc ?_ _) | (with_reducible refine LaterOf.drew ?_) | (with_reducible refine LaterOf.drewN ?_ _) | (with_reducible refine LaterOf.later ?_ _) | (with_reducible refine LaterOf.setCell ?_ (by first | exact Nat.le_refl _ | (simp; done) | omega | (simp; omega)) _)))⟩
      · have hkl : k = X.length := by omega
        have hyes : decide (vxs X = vxs Y) = true := by
          have e := E.out
          rw [hkl, List.take_length, hlen, List.take_length] at e
          exact decide_eq_true e
        have HY := Lib.hid hyes
        clear hyes
        go_wp2_with fail
        go_returns
        rw [HY.out]
        exact ⟨rfl, by (repeat (first | (with_reducible exact LaterOf.refl _) | (with_reducible refine LaterOf.alloc ?_ _) | (with_reducible refine LaterOf.drew ?_) | (with_reducible refine LaterOf.drewN ?_ _) | (with_reducible refine LaterOf.later ?_ _) | (with_reducible refine LaterOf.setCell ?_ (by first | exact Nat.le_refl _ | (simp; done) | omega | (simp; omega)) _)))⟩
  · have hno : decide (vxs X = vxs Y) = false := by
      rw [decide_eq_false_iff_not]
      intro e
      have := congrArg List.length e
      rw [vxs_len, vxs_len] at this
      exact hlen this
    rw [hno]
    clear hl hm hno
    go_enter Try.func56, Try.ntmps56
    go_wp2_with fail
    go_returns
    exact ⟨rfl, by (repeat (first | (with_reducible exact LaterOf.refl _) | (with_reducible refine LaterOf.alloc ?_ _) | (with_reducible refine LaterOf.drew ?_) | (with_reducible refine LaterOf.drewN ?_ _) | (with_reducible refine LaterOf.later ?_ _) | (with_reducible refine LaterOf.setCell ?_ (by first | exact Nat.le_refl _ | (simp; done) | omega | (simp; omega)) _)))⟩
def fewB (n : Int) (L : List (List Pt)) : Bool := L.all (fun r => decide ((r.length : Int) ≤ n)) && decide (L.length ≤ 4)
theorem all_dropG {α : Type} (p : α → Bool) {l : List α} {k : Nat} (h : k < l.length) : (l.drop k).all p = (p l[k] && (l.drop (k + 1)).all p) := by
  rw [List.drop_eq_getElem_cons h, List.all_cons]
theorem fewB_eq (n : Int) (X : List RgR) : fewB n (vxs X) = (X.all (fun x => decide ((x.xs.length : Int) ≤ n)) && decide (X.length ≤ 4)) := by
  unfold fewB vxs
  rw [List.all_map, List.length_map]
  rfl
set_option maxRecDepth 100000 in
set_option maxHeartbeats 8000000 in
theorem few18_any (A : Option Addr) (c : Nat) (X : List RgR) (n : Int) (w : World) (h : IsRings w A c X) :
    Gives Try.prog 47 #[.slice A X.length c, .int .i64 n] w (.bool (fewB n (vxs X))) := by
  apply Gives.ret
  have hn := h.len
  rw [fewB_eq]
  have H := Lib.hid h
  clear h
  go_enter Try.func47, Try.ntmps47
  go_wp2_with fail
  go_loopg [5] X.length (fun gas s5 wr => ∃ k : Nat, k ≤ X.length ∧ X.length - k ≤ gas ∧ s5 = .int .i64 k ∧ LaterOf w wr ∧ X.all (fun x => decide ((x.xs.length : Int) ≤ n)) = (X.drop k).all (fun x => decide ((x.xs.length : Int) ≤ n)))
  case atStart => exact ⟨0, by omega, by omega, rfl, by (repeat (first | (with_reducible exact LaterOf.refl _) | (with_reducible refine LaterOf.alloc ?_ _) | (with_reducible refine LaterOf.drew ?_) | (with_reducible refine LaterOf.drewN ?_ _) | (with_reducible refine LaterOf.later ?_ _) | (with_reducible refine LaterOf.setCell ?_ (by first | exact Nat.le_refl _ | (simp; done) | omega | (simp; omega)) _))), by rw [List.drop_zero]⟩
  case round =>
    obtain ⟨k, hk, hg, rfl, ⟨z, rfl⟩, hall⟩ := hrel
    by_cases hlt : k < X.length
    · rw [all_dropG _ hlt] at hall
      have hX := H.out.of (w' := z.wd) (by (repeat (first | (with_reducible exact SinceOf.refl _) | (with_reducible assumption) | (with_reducible refine SinceOf.alloc ?_ _) | (with_reducible refine SinceOf.drew ?_) | (with_reducible refine SinceOf.drewN ?_ _) | (with_reducible refine SinceOf.later ?_ _) | (with_reducible refine SinceOf.further ?_ _) | (with_reducible refine SinceOf.setCell ?_ (by first | exact Nat.le_refl _ | (simp; done) | omega | (simp; omega)) _))))
      have x1 := (hX.all _ (List.getElem_mem hlt)).2
      obtain ⟨g, off, rfl, hr⟩ := hX.row.at_ (by omega)
      have hO := hr.there
      have c0 := hr.g0 k hlt
      generalize X[k] = x at *
      clear hr hX
      by_cases hle : (x.xs.length : Int) ≤ n
      · rw [decide_eq_true hle, Bool.true_and] at hall
        have g1 : decide (n < (x.xs.length : Int)) = false := decide_eq_false (by omega)
        have HA := Lib.hid hall
        clear hall hle
        go_wp2_with fail
        go_roundg (X.length - (k + 1))
        case measure => omega
        case rel => exact ⟨k + 1, hlt, Nat.le_refl _, by go_num, by (repeat (first | (with_reducible exact LaterOf.refl _) | (with_reducible refine LaterOf.alloc ?_ _) | (with_reducible refine LaterOf.drew ?_) | (with_reducible refine LaterOf.drewN ?_ _) | (with_reducible refine LaterOf.later ?_ _) | (with_reducible refine LaterOf.setCell ?_ (by first | exact Nat.le_refl _ | (simp; done) | omega | (simp; omega)) _))), HA.out⟩
      · rw [decide_eq_false hle, Bool.false_and] at hall
        have g1 : decide (n < (x.xs.length : Int)) = true := decide_eq_true (by omega)
        have HA := Lib.hid hall
        clear hall hle
        go_wp2_with fail
        go_returns
        exact ⟨by rw [HA.out]; rfl, by (repeat (first | (with_reducible exact LaterOf.refl _) | (with_reducible refine LaterOf.alloc ?_ _) | (with_reducible refine LaterOf.drew ?_) | (with_reducible refine LaterOf.drewN ?_ _) | (with_reducible refine LaterOf.later ?_ _) | (with_reducible refine LaterOf.setCell ?_ (by first | exact Nat.le_refl _ | (simp; done) | omega | (simp; omega)) _)))⟩
    · have hkl : k = X.length := by omega
      subst hkl
      rw [List.drop_length, List.all_nil] at hall
      have HA := Lib.hid hall
      clear hall
      have g1 : decide ((X.length : Int) ≤ 4) = decide (X.length ≤ 4) := by
        rw [Bool.eq_iff_iff, decide_eq_true_iff, decide_eq_true_iff]; omega
      go_wp2_with fail
      go_returns
      exact ⟨by rw [HA.out, Bool.true_and]; rfl, by (repeat (first | (with_reducible exact LaterOf.refl _) | (with_reducible refine LaterOf.alloc ?_ _) | (with_reducible refine LaterOf.drew ?_) | (with_reducible refine LaterOf.drewN ?_ _) | (with_reducible refine LaterOf.later ?_ _) | (with_reducible refine LaterOf.setCell ?_ (by first | exact Nat.le_refl _ | (simp; done) | omega | (simp; omega)) _)))⟩
end Go.Proofs.Yticmfmcflikneaa
