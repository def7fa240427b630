/- Layer 15: swapRange and rotate of the standard library's stable sort, at rows of vectors. -/
import Derived.Test.YtpbgimdbhgahkaaGreatMinkS1
import Derived.Test.YtpbgimdbhgahkaaGreatMink10
import Derived.BigRegion
import Derived.Outline
import Derived.Deep.CutBlock
import Derived.Deep.DeepCutAuto
import Derived.Deep.CutRange
import Derived.Sort.WalkA
namespace Go.Proofs.YtpbgimdbhgahkaaGreat
open Go.RowKit Go.Sort
set_option linter.unusedVariables false
set_option linter.unusedSimpArgs false
attribute [local go_sem ↓] Go.wp_at_zero Go.wp_at_succ

theorem at0_eq' {l : List Pt} {i : Nat} (h : i < l.length) : l[i] = at0 l i := (at0_eq h).symm
/-- What a swap in a row leaves. -/
theorem Live.swap2 {w : World} {g off : Nat} {l : List (Int × Int)} (h : Live encV 2 w g off l) {x y : Nat} (hx : x < l.length) (hy : y < l.length) {px py qx qy : Int} (ep : at0 l x = (px, py)) (eq : at0 l y = (qx, qy)) :
    Live encV 2 ((((w.setCell ⟨g, off + x * 2, none⟩ (.int .i64 qx)).setCell ⟨g, off + x * 2 + 1, none⟩ (.int .i64 qy)).setCell ⟨g, off + y * 2, none⟩ (.int .i64 px)).setCell ⟨g, off + y * 2 + 1, none⟩ (.int .i64 py)) g off (swp2 l x y) := by
  have := (h.set x hx qx qy).set y (by simpa using hy) px py
  unfold swp2
  rw [ep, eq]
  exact this
theorem swap2_grown (w : World) (g a b c d : Nat) (p q r s : Value) : w.grownBy ((((w.setCell ⟨g, a, none⟩ p).setCell ⟨g, b, none⟩ q).setCell ⟨g, c, none⟩ r).setCell ⟨g, d, none⟩ s) (some g) :=
  (((grownBy_setCell (p := ⟨g, a, none⟩) rfl p).trans (grownBy_setCell (p := ⟨g, b, none⟩) rfl q)).trans (grownBy_setCell (p := ⟨g, c, none⟩) rfl r)).trans (grownBy_setCell (p := ⟨g, d, none⟩) rfl s)
theorem grownBy_drew (w : World) (row : Option Nat) : w.grownBy w.drew row := ⟨rfl, rfl, rfl, Nat.le_refl _, fun _ _ _ => rfl⟩
theorem Live.drew {w : World} {g off : Nat} {l : List (Int × Int)} (h : Live encV 2 w g off l) : Live encV 2 w.drew g off l := h.of ((SinceOf.refl _).drew)

set_option maxRecDepth 100000 in
set_option maxHeartbeats 4000000 in
theorem swapRange_any (g off c a b n : Nat) (l : List (Int × Int)) (w : World) (fv : Value) (hL : Live encV 2 w g off l) (hn : l.length ≤ 100000) (h1 : a + n ≤ b) (h2 : b + n ≤ l.length) :
    Calls Tryz.prog 102 #[.slice (some ⟨g, off, none⟩) l.length c, .int .i64 a, .int .i64 b, .int .i64 n, fv] w fun e w' => e = .returned (.tuple #[]) ∧ Live encV 2 w' g off (swapF l a b n) ∧ w.grownBy w' (some g) := by
  have HL := Lib.hid hL
  clear hL
  go_enter Tryz.func102, Tryz.ntmps102
  go_wp2_with fail
  go_loopg [10] n (fun gas s10 wr => ∃ i : Nat, i ≤ n ∧ n - i ≤ gas ∧ s10 = .int .i64 i ∧ Live encV 2 wr g off (swapF l a b i) ∧ w.grownBy wr (some g))
  case atStart => exact ⟨0, by omega, by omega, by go_num, HL.out, World.grownBy.refl _ _⟩
  case round =>
    obtain ⟨i, hi, hgas, rfl, hlv, hgr⟩ := hrel
    obtain ⟨u, rfl⟩ : ∃ u, u = wr := ⟨_, rfl⟩
    by_cases hlt : i < n
    · obtain ⟨L, hLd⟩ : ∃ L, L = swapF l a b i := ⟨_, rfl⟩
      have hll : L.length = l.length := by rw [hLd]; exact swapF_len l a b i
      have hsw : swapF l a b (i + 1) = swp2 L (a + i) (b + i) := by rw [hLd]; rfl
      rw [← hLd] at hlv
      have hxl : a + i < L.length := by omega
      have hyl : b + i < L.length := by omega
      obtain ⟨x, hx⟩ : ∃ x, x = a + i := ⟨_, rfl⟩
      obtain ⟨y, hy⟩ : ∃ y, y = b + i := ⟨_, rfl⟩
      rw [← hx] at hxl hsw
      rw [← hy] at hyl hsw
      have ex : (a : Int) + (i : Int) = (x : Int) := by omega
      have ey : (b : Int) + (i : Int) = (y : Int) := by omega
      have wx : IntKind.i64.wrap (x : Int) = (x : Int) := IntWalk.i64_in _ (by omega)
      have wy : IntKind.i64.wrap (y : Int) = (y : Int) := IntWalk.i64_in _ (by omega)
      have hxy : x < y := by omega
      have x0 := hlv.row.v0 x hxl
      have x1 := hlv.row.v1 x hxl
      have y0 := hlv.row.v0 y hyl
      have y1 := hlv.row.v1 y hyl
      rw [at0_eq' hxl] at x0 x1
      rw [at0_eq' hyl] at y0 y1
      have fx0 := hlv.free (x * 2) (by omega)
      have fx1 := hlv.free (x * 2 + 1) (by omega)
      have fy0 := hlv.free (y * 2) (by omega)
      have fy1 := hlv.free (y * 2 + 1) (by omega)
      rw [← Nat.add_assoc] at fx1 fy1
      have hO := hlv.row.there
      have hxl' : x < l.length := by omega
      have hyl' : y < l.length := by omega
      obtain ⟨⟨px, py⟩, hp⟩ : ∃ p, p = at0 L x := ⟨_, rfl⟩
      obtain ⟨⟨qx, qy⟩, hq⟩ : ∃ q, q = at0 L y := ⟨_, rfl⟩
      rw [← hp] at x0 x1
      rw [← hq] at y0 y1
      simp only at x0 x1 y0 y1
      have HS := Lib.hid (And.intro (hlv.swap2 hxl hyl hp.symm hq.symm) (And.intro hsw hgr))
      clear hlv hsw hgr hp hq hx hy hLd h1 h2
      go_upto_region 3 with fail
      go_big_region
      all_goals go_wp2_with fail
      all_goals go_roundg (n - (i + 1))
      case measure => omega
      case rel => exact ⟨i + 1, hlt, Nat.le_refl _, by go_num, by rw [HS.out.2.1]; exact HS.out.1.drew, (HS.out.2.2.trans (swap2_grown _ _ _ _ _ _ _ _ _ _)).trans (grownBy_drew _ _)⟩
    · obtain rfl : i = n := by omega
      have HR := Lib.hid (And.intro hlv hgr)
      clear hlv hgr
      go_wp2_with fail
      go_end0
      exact ⟨rfl, HR.out.1, HR.out.2⟩
set_option maxRecDepth 100000 in
set_option maxHeartbeats 4000000 in
theorem rotate_any (g off c a m b : Nat) (l : List (Int × Int)) (w : World) (fv : Value) (hL : Live encV 2 w g off l) (hn : l.length ≤ 100000) (h1 : a < m) (h2 : m < b) (h3 : b ≤ l.length) :
    Calls Tryz.prog 91 #[.slice (some ⟨g, off, none⟩) l.length c, .int .i64 a, .int .i64 m, .int .i64 b, fv] w fun e w' => e = .returned (.tuple #[]) ∧ ∃ l', Live encV 2 w' g off l' ∧ Rot l l' a m b ∧ Re l l' a b ∧ w.grownBy w' (some g) := by
  have HL := Lib.hid hL
  clear hL
  go_enter Tryz.func91, Tryz.ntmps91
  go_wp2_with fail
  go_loopg [10, 11] (b - a) (fun gas s10 s11 wr => ∃ (i j : Nat) (L : List Pt), 0 < i ∧ 0 < j ∧ i ≤ m - a ∧ j ≤ b - m ∧ i + j ≤ gas ∧ s10 = .int .i64 i ∧ s11 = .int .i64 j ∧ Live encV 2 wr g off L ∧ Re l L a b ∧ (∀ T, Rot L T (m - i) m (m + j) → Rot l T a m b) ∧ w.grownBy wr (some g))
  case atStart => exact ⟨m - a, b - m, l, by omega, by omega, Nat.le_refl _, Nat.le_refl _, by omega, (by congr 1; omega), (by congr 1; omega), HL.out, Re.refl _ _ _, fun T hT => (by rw [show m - (m - a) = a by omega, show m + (b - m) = b by omega] at hT; exact hT), World.grownBy.refl _ _⟩
  case round =>
    obtain ⟨i, j, L, hi0, hj0, hi, hj, hgas, rfl, rfl, hlv, hre, hrot, hgr⟩ := hrel
    obtain ⟨u, rfl⟩ : ∃ u, u = wr := ⟨_, rfl⟩
    have hll := hre.len
    have hw := hgr
    obtain ⟨x, hx⟩ : ∃ x, x = m - i := ⟨_, rfl⟩
    have ex : (m : Int) - (i : Int) = (x : Int) := by omega
    by_cases hlt : j < i
    · have SW := swapRange_any g off c (m - i) m j L u fv hlv (by omega) (by omega) (by omega)
      rw [hll, ← hx] at SW
      have hrot' : ∀ T, Rot (swapF L (m - i) m j) T (m - (i - j)) m (m + j) → Rot l T a m b := fun T hT => hrot T (Rot.left (by omega) hlt (by omega) hT)
      have hre' : Re l (swapF L (m - i) m j) a b := hre.trans (swapF_re (by omega) (by omega) (by omega) (by omega))
      rw [← hx] at hrot' hre'
      have g1 : ((i : Int) != (j : Int)) = true := by simp; omega
      have g2 : ((i : Int) == (j : Int)) = false := by simp; omega
      have g3 : decide ((j : Int) < (i : Int)) = true := decide_eq_true (by omega)
      have HS := Lib.hid (And.intro hrot' (And.intro hre' hgr))
      clear hrot hre hgr hrot' hre' hlv hx
      go_wp2_with fail
      refine SW.mono ?_
      rintro e w' ⟨rfl, hl', hg'⟩
      have HC := Lib.hid (And.intro hl' hg')
      clear hl' hg' SW
      go_wp2_with fail
      go_roundg (i - j + j)
      case measure => omega
      case rel => exact ⟨i - j, j, _, by omega, hj0, by omega, hj, Nat.le_refl _, (by congr 1; omega), rfl, HC.out.1, HS.out.2.1, HS.out.1, HS.out.2.2.trans HC.out.2⟩
    · by_cases hgt : i < j
      · obtain ⟨y, hy⟩ : ∃ y, y = m + j - i := ⟨_, rfl⟩
        have ey : (m : Int) + (j : Int) - (i : Int) = (y : Int) := by omega
        have SW := swapRange_any g off c (m - i) (m + j - i) i L u fv hlv (by omega) (by omega) (by omega)
        rw [hll, ← hx, ← hy] at SW
        have hrot' : ∀ T, Rot (swapF L (m - i) (m + j - i) i) T (m - i) m (m + (j - i)) → Rot l T a m b := fun T hT => hrot T (Rot.right (by omega) hgt (by omega) hT)
        have hre' : Re l (swapF L (m - i) (m + j - i) i) a b := hre.trans (swapF_re (by omega) (by omega) (by omega) (by omega))
        rw [← hx, ← hy] at hrot' hre'
        have hrot2 : ∀ T, Rot (swapF L x y i) T (m - i) m (m + (j - i)) → Rot l T a m b := fun T hT => hrot' T (by rw [hx]; rw [hx] at hT; exact hT)
        have g1 : ((i : Int) != (j : Int)) = true := by simp; omega
        have g2 : ((i : Int) == (j : Int)) = false := by simp; omega
        have g3 : decide ((j : Int) < (i : Int)) = false := decide_eq_false (by omega)
        have HS := Lib.hid (And.intro hrot2 (And.intro hre' hgr))
        clear hrot hre hgr hrot' hrot2 hre' hlv hx hy
        go_wp2_with fail
        refine SW.mono ?_
        rintro e w' ⟨rfl, hl', hg'⟩
        have HC := Lib.hid (And.intro hl' hg')
        clear hl' hg' SW
        go_wp2_with fail
        go_roundg (i + (j - i))
        case measure => omega
        case rel => exact ⟨i, j - i, _, hi0, by omega, hi, by omega, Nat.le_refl _, rfl, (by congr 1; omega), HC.out.1, HS.out.2.1, HS.out.1, HS.out.2.2.trans HC.out.2⟩
      · obtain rfl : i = j := by omega
        have SW := swapRange_any g off c (m - i) m i L u fv hlv (by omega) (by omega) (by omega)
        rw [hll, ← hx] at SW
        have hrot' : Rot l (swapF L (m - i) m i) a m b := hrot _ (Rot.same (by omega) (by omega))
        have hre' : Re l (swapF L (m - i) m i) a b := hre.trans (swapF_re (by omega) (by omega) (by omega) (by omega))
        rw [← hx] at hrot' hre'
        have g1 : ((i : Int) != (i : Int)) = false := by simp
        have HS := Lib.hid (And.intro hrot' (And.intro hre' hgr))
        clear hrot hre hgr hrot' hre' hlv hx
        go_wp2_with fail
        refine SW.mono ?_
        rintro e w' ⟨rfl, hl', hg'⟩
        have HC := Lib.hid (And.intro hl' hg')
        clear hl' hg' SW
        go_wp2_with fail
        go_end0
        exact ⟨rfl, _, HC.out.1, HS.out.1, HS.out.2.1, HS.out.2.2.trans HC.out.2⟩
end Go.Proofs.YtpbgimdbhgahkaaGreat
/- Layer 15: symMerge of the standard library's stable sort, at rows of vectors. -/
namespace Go.Proofs.YtpbgimdbhgahkaaGreat
open Go.RowKit Go.Sort
set_option linter.unusedVariables false
set_option linter.unusedSimpArgs false
attribute [local go_sem ↓] Go.wp_at_zero Go.wp_at_succ

/-- The comparison's captured function, in a block that is not the row's. -/
structure CmpAt (w : World) (b7 g : Nat) : Prop where
  cell : w.cell? ⟨b7, 0, none⟩ = some (.func (.func 61) #[] #[])
  lt : b7 < w.heap.size
  ne : b7 ≠ g
theorem CmpAt.kept {w w' : World} {b7 g : Nat} (h : CmpAt w b7 g) (hg : w.grownBy w' (some g)) : CmpAt w' b7 g :=
  ⟨by rw [World.grownBy.cell_far hg _ h.lt (by simpa using h.ne)]; exact h.cell, Nat.lt_of_lt_of_le h.lt hg.size, h.ne⟩
theorem CmpAt.of {w w' : World} {b7 g : Nat} (h : CmpAt w b7 g) (hs : SinceOf w w') : CmpAt w' b7 g := by
  obtain ⟨x, rfl⟩ := hs
  exact ⟨by rw [x.below.cell h.lt]; exact h.cell, Nat.lt_of_lt_of_le h.lt x.size, h.ne⟩
theorem CmpAt.calls {w : World} {b7 g : Nat} (h : CmpAt w b7 g) (p q : Pt) : Gives Tryz.prog 63 #[vv p.1 p.2, vv q.1 q.2, .pointer (some ⟨b7, 0, none⟩)] w (.int .i64 (ecmp p q)) := ecmp_any b7 p.1 p.2 q.1 q.2 w h.cell ⟨⟨h.lt⟩⟩
theorem ltOf_ecmp (p q : Pt) : ltOf ecmp p q = decide (ecmp p q < 0) := rfl
theorem SinceOf.grown_any {w w' : World} (h : SinceOf w w') (row : Option Nat) : w.grownBy w' row := by
  obtain ⟨x, rfl⟩ := h
  exact x.grownBy row

set_option maxRecDepth 100000 in
set_option maxHeartbeats 8000000 in
theorem symOne_any {D : Pt → Prop} (hO : OrdOn D (ltOf ecmp)) (b7 g off c a b : Nat) (l : List (Int × Int)) (w : World) (hL : Live encV 2 w g off l) (hC : CmpAt w b7 g) (hD : ∀ x ∈ l, D x) (hn : l.length ≤ 100000) (h2 : a + 1 < b) (h3 : b ≤ l.length) (hs : Sd (ltOf ecmp) l (a + 1) b) :
    Calls Tryz.prog 87 #[.slice (some ⟨g, off, none⟩) l.length c, .int .i64 a, .int .i64 ((a + 1 : Nat) : Int), .int .i64 b, .func (.func 63) #[] #[.pointer (some ⟨b7, 0, none⟩)]] w fun e w' => e = .returned (.tuple #[]) ∧ ∃ l', Live encV 2 w' g off l' ∧ Re l l' a b ∧ Sd (ltOf ecmp) l' a b ∧ w.grownBy w' (some g) := by
  have H := Lib.hid (And.intro hL (And.intro hC (And.intro hO (And.intro hD hs))))
  clear hL hC hD hs hO
  obtain ⟨m, hm⟩ : ∃ m, m = a + 1 := ⟨_, rfl⟩
  rw [← hm]
  have e1 : (m : Int) - (a : Int) = 1 := by omega
  have HM := Lib.hid hm
  have ham : a < m := by omega
  have hmb : m < b := by omega
  clear hm
  go_enter Tryz.func87, Tryz.ntmps87
  go_wp2_with fail
  go_loopg [10, 11] b (fun gas s10 s11 wr => ∃ i j : Nat, m ≤ i ∧ i ≤ j ∧ j ≤ b ∧ j - i ≤ gas ∧ s10 = .int .i64 i ∧ s11 = .int .i64 j ∧ SinceOf w wr ∧ (∀ t, m ≤ t → t < i → ltOf ecmp (at0 l t) (at0 l a) = true) ∧ (∀ t, j ≤ t → t < b → ltOf ecmp (at0 l t) (at0 l a) = false))
  case atStart => exact ⟨m, b, Nat.le_refl _, by omega, Nat.le_refl _, by omega, rfl, rfl, by (repeat (first | (with_reducible exact SinceOf.refl _) | (with_reducible assumption) | (with_reducible refine SinceOf.alloc ?_ _) | (with_reducible refine SinceOf.drew ?_) | (with_reducible refine SinceOf.drewN ?_ _) | (with_reducible refine SinceOf.later ?_ _) | (with_reducible refine SinceOf.further ?_ _) | (with_reducible refine SinceOf.setCell ?_ (by first | exact Nat.le_refl _ | (simp; done) | omega | (simp; omega)) _))), fun t h1 h2 => absurd h1 (by omega), fun t h1 h2 => absurd h1 (by omega)⟩
  case round =>
    obtain ⟨i, j, hmi, hij, hjb, hgas, rfl, rfl, ⟨z, rfl⟩, hlo, hhi⟩ := hrel
    by_cases hlt : i < j
    · obtain ⟨h, hh⟩ : ∃ h, h = (i + j) / 2 := ⟨_, rfl⟩
      have q1 : i ≤ h := by omega
      have q2 : h < j := by omega
      have e2 : ((i : Int) + (j : Int)) / 2 = (h : Int) := by omega
      have hlv := H.out.1.of (w' := z.wd) (by (repeat (first | (with_reducible exact SinceOf.refl _) | (with_reducible assumption) | (with_reducible refine SinceOf.alloc ?_ _) | (with_reducible refine SinceOf.drew ?_) | (with_reducible refine SinceOf.drewN ?_ _) | (with_reducible refine SinceOf.later ?_ _) | (with_reducible refine SinceOf.further ?_ _) | (with_reducible refine SinceOf.setCell ?_ (by first | exact Nat.le_refl _ | (simp; done) | omega | (simp; omega)) _))))
      have hO := hlv.row.there
      have x0 := hlv.row.v0 h (by omega)
      have x1 := hlv.row.v1 h (by omega)
      have y0 := hlv.row.v0 a (by omega)
      have y1 := hlv.row.v1 a (by omega)
      rw [at0_eq' (by omega)] at x0 x1 y0 y1
      have hhl : h < l.length := by omega
      have hal : a < l.length := by omega
      have C := fun W (hW : SinceOf z.wd W) => (H.out.2.1.of (SinceOf.trans ⟨z, rfl⟩ hW)).calls (at0 l h) (at0 l a)
      have K : ltOf ecmp (at0 l h) (at0 l a) = decide (ecmp (at0 l h) (at0 l a) < 0) := rfl
      have mono1 : ltOf ecmp (at0 l h) (at0 l a) = true → ∀ t, m ≤ t → t < h + 1 → ltOf ecmp (at0 l t) (at0 l a) = true := fun e t t1 t2 => by
        rcases Nat.lt_or_ge t h with c | c
        · exact H.out.2.2.1.trans' (at0_D H.out.2.2.2.1 (by omega)) (at0_D H.out.2.2.2.1 (by omega)) (at0_D H.out.2.2.2.1 (by omega)) (H.out.2.2.2.2 t h (by have := HM.out; omega) c (by omega)) e
        · obtain rfl : t = h := by omega
          exact e
      have mono2 : ltOf ecmp (at0 l h) (at0 l a) = false → ∀ t, h ≤ t → t < b → ltOf ecmp (at0 l t) (at0 l a) = false := fun e t t1 t2 => by
        rcases Nat.lt_or_eq_of_le t1 with c | rfl
        · exact H.out.2.2.1.ntrans _ _ _ (at0_D H.out.2.2.2.1 (by omega)) (at0_D H.out.2.2.2.1 (by omega)) (at0_D H.out.2.2.2.1 (by omega)) e (H.out.2.2.2.2 h t (by have := HM.out; omega) c t2)
        · exact e
      rw [K] at mono1 mono2
      have HL := Lib.hid (And.intro hlo (And.intro hhi (And.intro mono1 mono2)))
      clear hlo hhi mono1 mono2 K hlv hh
      obtain ⟨⟨px, py⟩, hp⟩ : ∃ p, p = at0 l h := ⟨_, rfl⟩
      obtain ⟨⟨qx, qy⟩, hq⟩ : ∃ q, q = at0 l a := ⟨_, rfl⟩
      obtain ⟨v, hv⟩ : ∃ v, v = ecmp (at0 l h) (at0 l a) := ⟨_, rfl⟩
      rw [← hv] at C HL
      rw [← hp, ← hq] at C
      rw [← hp] at x0 x1
      rw [← hq] at y0 y1
      simp only at x0 x1 y0 y1 C
      clear hp hq hv
      obtain ⟨bv, hbv⟩ : ∃ bv, bv = decide (v < 0) := ⟨_, rfl⟩
      have gv : decide (v < 0) = bv := hbv.symm
      rw [gv] at HL
      clear hbv
      go_upto_region 5 with fail
      go_cut [50] (fun s50 wx => s50 = .bool bv ∧ SinceOf z.wd wx)
      case first =>
        go_region_held3 (fun w' => w'.cell? ⟨g, off + h * 2, none⟩ = some (.int .i64 px) ∧ w'.cell? ⟨g, off + h * 2 + 1, none⟩ = some (.int .i64 py) ∧ w'.cell? ⟨g, off + a * 2, none⟩ = some (.int .i64 qx) ∧ w'.cell? ⟨g, off + a * 2 + 1, none⟩ = some (.int .i64 qy)) ((simp [go_sem, *]))
          ((go_at_call 63; (with_reducible refine (C _ (by (repeat (first | (with_reducible exact SinceOf.refl _) | (with_reducible assumption) | (with_reducible refine SinceOf.alloc ?_ _) | (with_reducible refine SinceOf.drew ?_) | (with_reducible refine SinceOf.drewN ?_ _) | (with_reducible refine SinceOf.later ?_ _) | (with_reducible refine SinceOf.further ?_ _) | (with_reducible refine SinceOf.setCell ?_ (by first | exact Nat.le_refl _ | (simp; done) | omega | (simp; omega)) _))))).calls.mono ?_); rintro e _ ⟨rfl, y1, rfl⟩))
        all_goals
          go_wp2_with fail
          go_meet
          exact ⟨by simp [gv], by (repeat (first | (with_reducible exact SinceOf.refl _) | (with_reducible assumption) | (with_reducible refine SinceOf.alloc ?_ _) | (with_reducible refine SinceOf.drew ?_) | (with_reducible refine SinceOf.drewN ?_ _) | (with_reducible refine SinceOf.later ?_ _) | (with_reducible refine SinceOf.further ?_ _) | (with_reducible refine SinceOf.setCell ?_ (by first | exact Nat.le_refl _ | (simp; done) | omega | (simp; omega)) _)))⟩
      case rest =>
        obtain ⟨rfl, ⟨z2, rfl⟩⟩ := hcut
        clear C x0 x1 y0 y1
        cases bv
        · go_wp2_with fail
          go_roundg (h - i)
          case measure => omega
          case rel => exact ⟨i, h, hmi, q1, by omega, Nat.le_refl _, rfl, rfl, by (repeat (first | (with_reducible exact SinceOf.refl _) | (with_reducible assumption) | (with_reducible refine SinceOf.alloc ?_ _) | (with_reducible refine SinceOf.drew ?_) | (with_reducible refine SinceOf.drewN ?_ _) | (with_reducible refine SinceOf.later ?_ _) | (with_reducible refine SinceOf.further ?_ _) | (with_reducible refine SinceOf.setCell ?_ (by first | exact Nat.le_refl _ | (simp; done) | omega | (simp; omega)) _))), HL.out.1, HL.out.2.2.2 (by first | rfl | trivial)⟩
        · go_wp2_with fail
          go_roundg (j - (h + 1))
          case measure => omega
          case rel => exact ⟨h + 1, j, by omega, by omega, hjb, Nat.le_refl _, by go_num, rfl, by (repeat (first | (with_reducible exact SinceOf.refl _) | (with_reducible assumption) | (with_reducible refine SinceOf.alloc ?_ _) | (with_reducible refine SinceOf.drew ?_) | (with_reducible refine SinceOf.drewN ?_ _) | (with_reducible refine SinceOf.later ?_ _) | (with_reducible refine SinceOf.further ?_ _) | (with_reducible refine SinceOf.setCell ?_ (by first | exact Nat.le_refl _ | (simp; done) | omega | (simp; omega)) _))), HL.out.2.2.1 (by first | rfl | trivial), HL.out.2.1⟩
    · obtain rfl : i = j := by omega
      have HL := Lib.hid (And.intro hlo hhi)
      clear hlo hhi
      obtain ⟨k1, hk1⟩ : ∃ k1, k1 = i - 1 := ⟨_, rfl⟩
      have e3 : (i : Int) - 1 = (k1 : Int) := by omega
      have hak : a ≤ k1 := by omega
      have hkb : k1 + 1 = i := by omega
      clear hk1
      go_wp2_with fail
      go_loopg [13] (k1 - a) (fun gas s13 wr => ∃ k : Nat, a ≤ k ∧ k ≤ k1 ∧ k1 - k ≤ gas ∧ s13 = .int .i64 k ∧ Live encV 2 wr g off (upF l a (k - a)) ∧ z.wd.grownBy wr (some g))
      case atStart => exact ⟨a, Nat.le_refl _, hak, Nat.le_refl _, rfl, (by rw [Nat.sub_self]; exact H.out.1.of (by (repeat (first | (with_reducible exact SinceOf.refl _) | (with_reducible assumption) | (with_reducible refine SinceOf.alloc ?_ _) | (with_reducible refine SinceOf.drew ?_) | (with_reducible refine SinceOf.drewN ?_ _) | (with_reducible refine SinceOf.later ?_ _) | (with_reducible refine SinceOf.further ?_ _) | (with_reducible refine SinceOf.setCell ?_ (by first | exact Nat.le_refl _ | (simp; done) | omega | (simp; omega)) _))))), World.grownBy.refl _ _⟩
      case round =>
        obtain ⟨x, hax, hxk, hgas, rfl, hlv, hgr⟩ := hrel
        obtain ⟨u, rfl⟩ : ∃ u, u = wr := ⟨_, rfl⟩
        by_cases hlt2 : x < k1
        · obtain ⟨L, hLd⟩ : ∃ L, L = upF l a (x - a) := ⟨_, rfl⟩
          have hll : L.length = l.length := by rw [hLd]; exact upF_len l a _
          have hsw : upF l a (x + 1 - a) = swp2 L x (x + 1) := by
            rw [show x + 1 - a = (x - a) + 1 by omega, upF, hLd, show a + (x - a) = x by omega]
          rw [← hLd] at hlv
          have hxl : x < L.length := by omega
          have hyl : x + 1 < L.length := by omega
          obtain ⟨y, hy⟩ : ∃ y, y = x + 1 := ⟨_, rfl⟩
          rw [← hy] at hyl hsw
          have ey : (x : Int) + 1 = (y : Int) := by omega
          have wy : IntKind.i64.wrap (y : Int) = (y : Int) := IntWalk.i64_in _ (by omega)
          have x0 := hlv.row.v0 x hxl
          have x1 := hlv.row.v1 x hxl
          have y0 := hlv.row.v0 y hyl
          have y1 := hlv.row.v1 y hyl
          rw [at0_eq' hxl] at x0 x1
          rw [at0_eq' hyl] at y0 y1
          have fx0 := hlv.free (x * 2) (by omega)
          have fx1 := hlv.free (x * 2 + 1) (by omega)
          have fy0 := hlv.free (y * 2) (by omega)
          have fy1 := hlv.free (y * 2 + 1) (by omega)
          rw [← Nat.add_assoc] at fx1 fy1
          have hO := hlv.row.there
          have hxl' : x < l.length := by omega
          have hyl' : y < l.length := by omega
          have hxy : x < y := by omega
          obtain ⟨⟨px, py⟩, hp⟩ : ∃ p, p = at0 L x := ⟨_, rfl⟩
          obtain ⟨⟨qx, qy⟩, hq⟩ : ∃ q, q = at0 L y := ⟨_, rfl⟩
          rw [← hp] at x0 x1
          rw [← hq] at y0 y1
          simp only at x0 x1 y0 y1
          have HS := Lib.hid (And.intro (hlv.swap2 hxl hyl hp.symm hq.symm) (And.intro hsw hgr))
          clear hlv hsw hgr hp hq hLd e1 e3 hy
          go_upto_region 11 with fail
          go_big_region
          all_goals go_wp2_with fail
          all_goals go_roundg (k1 - (x + 1))
          case measure => omega
          case rel => exact ⟨y, by omega, by omega, by omega, (by first | rfl | go_num), by rw [HS.out.2.1]; exact HS.out.1.drew, (HS.out.2.2.trans (swap2_grown _ _ _ _ _ _ _ _ _ _)).trans (grownBy_drew _ _)⟩
        · obtain rfl : x = k1 := by omega
          have HR := Lib.hid (And.intro hlv hgr)
          clear hlv hgr
          go_wp2_with fail
          go_returns
          refine ⟨rfl, _, HR.out.1, ?_, ?_, (SinceOf.grown_any ⟨z, rfl⟩ _).trans HR.out.2⟩
          · exact upF_re (Nat.le_refl _) (by omega) h3
          · have := sd_up H.out.2.2.1 H.out.2.2.2.1 h3 (by omega) H.out.2.2.2.2 (i := i) (by omega) hjb (fun t t1 t2 => HL.out.1 t (by have := HM.out; omega) t2) HL.out.2
            rw [show i - 1 - a = x - a by omega] at this
            exact this
set_option maxRecDepth 100000 in
set_option maxHeartbeats 8000000 in
theorem symLast_any {D : Pt → Prop} (hO : OrdOn D (ltOf ecmp)) (b7 g off c a m : Nat) (l : List (Int × Int)) (w : World) (hL : Live encV 2 w g off l) (hC : CmpAt w b7 g) (hD : ∀ x ∈ l, D x) (hn : l.length ≤ 100000) (h2 : a + 1 < m) (h3 : m + 1 ≤ l.length) (hs : Sd (ltOf ecmp) l a m) :
    Calls Tryz.prog 87 #[.slice (some ⟨g, off, none⟩) l.length c, .int .i64 a, .int .i64 m, .int .i64 ((m + 1 : Nat) : Int), .func (.func 63) #[] #[.pointer (some ⟨b7, 0, none⟩)]] w fun e w' => e = .returned (.tuple #[]) ∧ ∃ l', Live encV 2 w' g off l' ∧ Re l l' a (m + 1) ∧ Sd (ltOf ecmp) l' a (m + 1) ∧ w.grownBy w' (some g) := by
  have H := Lib.hid (And.intro hL (And.intro hC (And.intro hO (And.intro hD hs))))
  clear hL hC hD hs hO
  obtain ⟨b, hb⟩ : ∃ b, b = m + 1 := ⟨_, rfl⟩
  rw [← hb]
  have e1 : (b : Int) - (m : Int) = 1 := by omega
  obtain ⟨d, hd⟩ : ∃ d, d = m - a := ⟨_, rfl⟩
  have e0 : (m : Int) - (a : Int) = (d : Int) := by omega
  have g0 : ((d : Int) == 1) = false := by simp; omega
  have HM := Lib.hid hb
  have hml : m < l.length := by omega
  clear hb hd
  go_enter Tryz.func87, Tryz.ntmps87
  go_wp2_with fail
  go_loopg [14, 15] m (fun gas s14 s15 wr => ∃ i j : Nat, a ≤ i ∧ i ≤ j ∧ j ≤ m ∧ j - i ≤ gas ∧ s14 = .int .i64 i ∧ s15 = .int .i64 j ∧ SinceOf w wr ∧ (∀ t, a ≤ t → t < i → ltOf ecmp (at0 l m) (at0 l t) = false) ∧ (∀ t, j ≤ t → t < m → ltOf ecmp (at0 l m) (at0 l t) = true))
  case atStart => exact ⟨a, m, Nat.le_refl _, by omega, Nat.le_refl _, by omega, rfl, rfl, by (repeat (first | (with_reducible exact SinceOf.refl _) | (with_reducible assumption) | (with_reducible refine SinceOf.alloc ?_ _) | (with_reducible refine SinceOf.drew ?_) | (with_reducible refine SinceOf.drewN ?_ _) | (with_reducible refine SinceOf.later ?_ _) | (with_reducible refine SinceOf.further ?_ _) | (with_reducible refine SinceOf.setCell ?_ (by first | exact Nat.le_refl _ | (simp; done) | omega | (simp; omega)) _))), fun t h1 h2 => absurd h1 (by omega), fun t h1 h2 => absurd h1 (by omega)⟩
  case round =>
    obtain ⟨i, j, hmi, hij, hjb, hgas, rfl, rfl, ⟨z, rfl⟩, hlo, hhi⟩ := hrel
    by_cases hlt : i < j
    · obtain ⟨h, hh⟩ : ∃ h, h = (i + j) / 2 := ⟨_, rfl⟩
      have q1 : i ≤ h := by omega
      have q2 : h < j := by omega
      have e2 : ((i : Int) + (j : Int)) / 2 = (h : Int) := by omega
      have hlv := H.out.1.of (w' := z.wd) (by (repeat (first | (with_reducible exact SinceOf.refl _) | (with_reducible assumption) | (with_reducible refine SinceOf.alloc ?_ _) | (with_reducible refine SinceOf.drew ?_) | (with_reducible refine SinceOf.drewN ?_ _) | (with_reducible refine SinceOf.later ?_ _) | (with_reducible refine SinceOf.further ?_ _) | (with_reducible refine SinceOf.setCell ?_ (by first | exact Nat.le_refl _ | (simp; done) | omega | (simp; omega)) _))))
      have hO := hlv.row.there
      have x0 := hlv.row.v0 h (by omega)
      have x1 := hlv.row.v1 h (by omega)
      have y0 := hlv.row.v0 m (by omega)
      have y1 := hlv.row.v1 m (by omega)
      rw [at0_eq' (by omega)] at x0 x1 y0 y1
      have hhl : h < l.length := by omega
      have C := fun W (hW : SinceOf z.wd W) => (H.out.2.1.of (SinceOf.trans ⟨z, rfl⟩ hW)).calls (at0 l m) (at0 l h)
      have K : ltOf ecmp (at0 l m) (at0 l h) = decide (ecmp (at0 l m) (at0 l h) < 0) := rfl
      have mono1 : ltOf ecmp (at0 l m) (at0 l h) = false → ∀ t, a ≤ t → t < h + 1 → ltOf ecmp (at0 l m) (at0 l t) = false := fun e t t1 t2 => by
        rcases Nat.lt_or_ge t h with c | c
        · exact H.out.2.2.1.ntrans _ _ _ (at0_D H.out.2.2.2.1 (by omega)) (at0_D H.out.2.2.2.1 (by omega)) (at0_D H.out.2.2.2.1 (by omega)) (H.out.2.2.2.2 t h t1 c (by omega)) e
        · obtain rfl : t = h := by omega
          exact e
      have mono2 : ltOf ecmp (at0 l m) (at0 l h) = true → ∀ t, h ≤ t → t < m → ltOf ecmp (at0 l m) (at0 l t) = true := fun e t t1 t2 => by
        rcases Nat.lt_or_eq_of_le t1 with c | rfl
        · exact H.out.2.2.1.trans (at0_D H.out.2.2.2.1 (by omega)) (at0_D H.out.2.2.2.1 (by omega)) (at0_D H.out.2.2.2.1 (by omega)) e (H.out.2.2.2.2 h t (by omega) c t2)
        · exact e
      rw [K] at mono1 mono2
      have HL := Lib.hid (And.intro hlo (And.intro hhi (And.intro mono1 mono2)))
      clear hlo hhi mono1 mono2 K hlv hh
      obtain ⟨⟨px, py⟩, hp⟩ : ∃ p, p = at0 l h := ⟨_, rfl⟩
      obtain ⟨⟨qx, qy⟩, hq⟩ : ∃ q, q = at0 l m := ⟨_, rfl⟩
      obtain ⟨v, hv⟩ : ∃ v, v = ecmp (at0 l m) (at0 l h) := ⟨_, rfl⟩
      rw [← hv] at C HL
      rw [← hp, ← hq] at C
      rw [← hp] at x0 x1
      rw [← hq] at y0 y1
      simp only at x0 x1 y0 y1 C
      clear hp hq hv
      obtain ⟨bv, hbv⟩ : ∃ bv, bv = decide (v < 0) := ⟨_, rfl⟩
      have gv : decide (v < 0) = bv := hbv.symm
      rw [gv] at HL
      clear hbv
      go_upto_region 17 with fail
      go_cut [103] (fun s103 wx => s103 = .bool (!bv) ∧ SinceOf z.wd wx)
      case first =>
        go_region_held3 (fun w' => w'.cell? ⟨g, off + h * 2, none⟩ = some (.int .i64 px) ∧ w'.cell? ⟨g, off + h * 2 + 1, none⟩ = some (.int .i64 py) ∧ w'.cell? ⟨g, off + m * 2, none⟩ = some (.int .i64 qx) ∧ w'.cell? ⟨g, off + m * 2 + 1, none⟩ = some (.int .i64 qy)) ((simp [go_sem, *]))
          ((go_at_call 63; (with_reducible refine (C _ (by (repeat (first | (with_reducible exact SinceOf.refl _) | (with_reducible assumption) | (with_reducible refine SinceOf.alloc ?_ _) | (with_reducible refine SinceOf.drew ?_) | (with_reducible refine SinceOf.drewN ?_ _) | (with_reducible refine SinceOf.later ?_ _) | (with_reducible refine SinceOf.further ?_ _) | (with_reducible refine SinceOf.setCell ?_ (by first | exact Nat.le_refl _ | (simp; done) | omega | (simp; omega)) _))))).calls.mono ?_); rintro e _ ⟨rfl, y1, rfl⟩))
        all_goals
          go_wp2_with fail
          go_meet
          exact ⟨by simp [gv], by (repeat (first | (with_reducible exact SinceOf.refl _) | (with_reducible assumption) | (with_reducible refine SinceOf.alloc ?_ _) | (with_reducible refine SinceOf.drew ?_) | (with_reducible refine SinceOf.drewN ?_ _) | (with_reducible refine SinceOf.later ?_ _) | (with_reducible refine SinceOf.further ?_ _) | (with_reducible refine SinceOf.setCell ?_ (by first | exact Nat.le_refl _ | (simp; done) | omega | (simp; omega)) _)))⟩
      case rest =>
        obtain ⟨rfl, ⟨z2, rfl⟩⟩ := hcut
        clear C x0 x1 y0 y1
        cases bv
        · go_wp2_with fail
          go_roundg (j - (h + 1))
          case measure => omega
          case rel => exact ⟨h + 1, j, by omega, by omega, hjb, Nat.le_refl _, by go_num, rfl, by (repeat (first | (with_reducible exact SinceOf.refl _) | (with_reducible assumption) | (with_reducible refine SinceOf.alloc ?_ _) | (with_reducible refine SinceOf.drew ?_) | (with_reducible refine SinceOf.drewN ?_ _) | (with_reducible refine SinceOf.later ?_ _) | (with_reducible refine SinceOf.further ?_ _) | (with_reducible refine SinceOf.setCell ?_ (by first | exact Nat.le_refl _ | (simp; done) | omega | (simp; omega)) _))), HL.out.2.2.1 (by first | rfl | trivial), HL.out.2.1⟩
        · go_wp2_with fail
          go_roundg (h - i)
          case measure => omega
          case rel => exact ⟨i, h, hmi, q1, by omega, Nat.le_refl _, rfl, rfl, by (repeat (first | (with_reducible exact SinceOf.refl _) | (with_reducible assumption) | (with_reducible refine SinceOf.alloc ?_ _) | (with_reducible refine SinceOf.drew ?_) | (with_reducible refine SinceOf.drewN ?_ _) | (with_reducible refine SinceOf.later ?_ _) | (with_reducible refine SinceOf.further ?_ _) | (with_reducible refine SinceOf.setCell ?_ (by first | exact Nat.le_refl _ | (simp; done) | omega | (simp; omega)) _))), HL.out.1, HL.out.2.2.2 (by first | rfl | trivial)⟩
    · obtain rfl : i = j := by omega
      have HL := Lib.hid (And.intro hlo hhi)
      clear hlo hhi
      go_wp2_with fail
      go_loopg [17] (m - i) (fun gas s17 wr => ∃ k : Nat, i ≤ k ∧ k ≤ m ∧ k - i ≤ gas ∧ s17 = .int .i64 k ∧ Live encV 2 wr g off (dnF l m (m - k)) ∧ z.wd.grownBy wr (some g))
      case atStart => exact ⟨m, hjb, Nat.le_refl _, Nat.le_refl _, rfl, (by rw [Nat.sub_self]; exact H.out.1.of (by (repeat (first | (with_reducible exact SinceOf.refl _) | (with_reducible assumption) | (with_reducible refine SinceOf.alloc ?_ _) | (with_reducible refine SinceOf.drew ?_) | (with_reducible refine SinceOf.drewN ?_ _) | (with_reducible refine SinceOf.later ?_ _) | (with_reducible refine SinceOf.further ?_ _) | (with_reducible refine SinceOf.setCell ?_ (by first | exact Nat.le_refl _ | (simp; done) | omega | (simp; omega)) _))))), World.grownBy.refl _ _⟩
      case round =>
        obtain ⟨x, hax, hxk, hgas, rfl, hlv, hgr⟩ := hrel
        obtain ⟨u, rfl⟩ : ∃ u, u = wr := ⟨_, rfl⟩
        by_cases hlt2 : i < x
        · obtain ⟨L, hLd⟩ : ∃ L, L = dnF l m (m - x) := ⟨_, rfl⟩
          have hll : L.length = l.length := by rw [hLd]; exact dnF_len l m _
          obtain ⟨y, hy⟩ : ∃ y, y = x - 1 := ⟨_, rfl⟩
          have hsw : dnF l m (m - y) = swp2 L x y := by
            rw [show m - y = (m - x) + 1 by omega, dnF, hLd, show m - (m - x) = x by omega, hy]
          rw [← hLd] at hlv
          have hxl : x < L.length := by omega
          have hyl : y < L.length := by omega
          have ey : (x : Int) - 1 = (y : Int) := by omega
          have wy : IntKind.i64.wrap (y : Int) = (y : Int) := IntWalk.i64_in _ (by omega)
          have x0 := hlv.row.v0 x hxl
          have x1 := hlv.row.v1 x hxl
          have y0 := hlv.row.v0 y hyl
          have y1 := hlv.row.v1 y hyl
          rw [at0_eq' hxl] at x0 x1
          rw [at0_eq' hyl] at y0 y1
          have fx0 := hlv.free (x * 2) (by omega)
          have fx1 := hlv.free (x * 2 + 1) (by omega)
          have fy0 := hlv.free (y * 2) (by omega)
          have fy1 := hlv.free (y * 2 + 1) (by omega)
          rw [← Nat.add_assoc] at fx1 fy1
          have hO := hlv.row.there
          have hxl' : x < l.length := by omega
          have hyl' : y < l.length := by omega
          have hxy : y < x := by omega
          have hiy : i ≤ y := by omega
          obtain ⟨⟨px, py⟩, hp⟩ : ∃ p, p = at0 L x := ⟨_, rfl⟩
          obtain ⟨⟨qx, qy⟩, hq⟩ : ∃ q, q = at0 L y := ⟨_, rfl⟩
          rw [← hp] at x0 x1
          rw [← hq] at y0 y1
          simp only at x0 x1 y0 y1
          have HS := Lib.hid (And.intro (hlv.swap2 hxl hyl hp.symm hq.symm) (And.intro hsw hgr))
          clear hlv hsw hgr hp hq hLd e1 hy
          go_upto_region 23 with fail
          go_big_region
          all_goals go_wp2_with fail
          all_goals go_roundg (y - i)
          case measure => omega
          case rel => exact ⟨y, hiy, by omega, Nat.le_refl _, (by first | rfl | go_num), by rw [HS.out.2.1]; exact HS.out.1.drew, (HS.out.2.2.trans (swap2_grown _ _ _ _ _ _ _ _ _ _)).trans (grownBy_drew _ _)⟩
        · obtain rfl : x = i := by omega
          have HR := Lib.hid (And.intro hlv hgr)
          clear hlv hgr
          go_wp2_with fail
          go_returns
          refine ⟨rfl, _, HR.out.1, ?_, ?_, (SinceOf.grown_any ⟨z, rfl⟩ _).trans HR.out.2⟩
          · rw [HM.out]
            exact dnF_re (by omega) (by omega) (by omega) h3
          · rw [HM.out]
            exact sd_dn H.out.2.2.1 H.out.2.2.2.1 hml H.out.2.2.2.2 hmi hjb HL.out.1 HL.out.2
end Go.Proofs.YtpbgimdbhgahkaaGreat
/- Layer 15: symMerge of the standard library's stable sort puts two sorted ranges in order. -/
namespace Go.Proofs.YtpbgimdbhgahkaaGreat
open Go.RowKit Go.Sort
set_option linter.unusedVariables false
set_option linter.unusedSimpArgs false
attribute [local go_sem ↓] Go.wp_at_zero Go.wp_at_succ

def fvE (b7 : Nat) : Value := .func (.func 63) #[] #[.pointer (some ⟨b7, 0, none⟩)]
def SymRes (w : World) (g off : Nat) (l : List Pt) (a b : Nat) (e : Ending) (w' : World) : Prop := e = .returned (.tuple #[]) ∧ ∃ l', Live encV 2 w' g off l' ∧ Re l l' a b ∧ Sd (ltOf ecmp) l' a b ∧ w.grownBy w' (some g)
set_option maxRecDepth 100000 in
set_option maxHeartbeats 8000000 in
theorem symRec_any {D : Pt → Prop} (hO : OrdOn D (ltOf ecmp)) (b7 g off c a m b : Nat) (l : List (Int × Int)) (w : World)
    (IH : ∀ a' m' b' (l' : List Pt) (w' : World), b' - a' < b - a → Live encV 2 w' g off l' → CmpAt w' b7 g → (∀ x ∈ l', D x) → l'.length ≤ 100000 → a' < m' → m' < b' → b' ≤ l'.length → Sd (ltOf ecmp) l' a' m' → Sd (ltOf ecmp) l' m' b' → Calls Tryz.prog 87 #[.slice (some ⟨g, off, none⟩) l'.length c, .int .i64 a', .int .i64 m', .int .i64 b', fvE b7] w' (SymRes w' g off l' a' b'))
    (hL : Live encV 2 w g off l) (hC : CmpAt w b7 g) (hD : ∀ x ∈ l, D x) (hn : l.length ≤ 100000) (h1 : a + 1 < m) (h2 : m + 1 < b) (h3 : b ≤ l.length) (hs1 : Sd (ltOf ecmp) l a m) (hs2 : Sd (ltOf ecmp) l m b) :
    Calls Tryz.prog 87 #[.slice (some ⟨g, off, none⟩) l.length c, .int .i64 a, .int .i64 m, .int .i64 b, fvE b7] w (SymRes w g off l a b) := by
  have H := Lib.hid (And.intro hL (And.intro hC (And.intro hO (And.intro hD (And.intro hs1 (And.intro hs2 IH))))))
  clear hL hC hD hs1 hs2 hO IH
  unfold SymRes fvE
  obtain ⟨d, hd⟩ : ∃ d, d = m - a := ⟨_, rfl⟩
  have e0 : (m : Int) - (a : Int) = (d : Int) := by omega
  have g0 : ((d : Int) == 1) = false := by simp; omega
  obtain ⟨d2, hd2⟩ : ∃ d, d = b - m := ⟨_, rfl⟩
  have e1 : (b : Int) - (m : Int) = (d2 : Int) := by omega
  have g1 : ((d2 : Int) == 1) = false := by simp; omega
  obtain ⟨mid, hmid⟩ : ∃ mid, mid = (a + b) / 2 := ⟨_, rfl⟩
  have e2 : ((a : Int) + (b : Int)) / 2 = (mid : Int) := by omega
  obtain ⟨nn, hnn⟩ : ∃ nn, nn = mid + m := ⟨_, rfl⟩
  have e3 : (mid : Int) + (m : Int) = (nn : Int) := by omega
  obtain ⟨lo, hlo⟩ : ∃ lo, lo = if mid < m then nn - b else a := ⟨_, rfl⟩
  obtain ⟨hi, hhi⟩ : ∃ hi, hi = if mid < m then mid else m := ⟨_, rfl⟩
  have HLH := Lib.hid (And.intro hlo hhi)
  have HMID := Lib.hid (And.intro hmid hnn)
  have bm : a < mid ∧ mid < b ∧ nn < 300000 ∧ 0 < nn := by omega
  have blh : a ≤ lo ∧ lo ≤ hi ∧ hi ≤ m ∧ hi ≤ mid ∧ nn ≤ b + lo := by
    split at hlo <;> split at hhi <;> omega
  obtain ⟨bm1, bm2, bm3, bm4⟩ := bm
  obtain ⟨bl1, bl2, bl3, bl4, bl5⟩ := blh
  clear hd hd2 hmid hnn hlo hhi
  go_enter Tryz.func87, Tryz.ntmps87
  go_upto_if 140 with fail
  go_cut [20, 21] from 141 to 146 (fun s20 s21 wx => s20 = .int .i64 lo ∧ s21 = .int .i64 hi ∧ wx = w)
  case first =>
    by_cases q : mid < m
    · have f : decide ((mid : Int) < (m : Int)) = true := decide_eq_true (by omega)
      have f2 : (nn : Int) - (b : Int) = (lo : Int) := by have := HLH.out.1; rw [if_pos q] at this; have := HMID.out; omega
      have f3 : hi = mid := by rw [HLH.out.2, if_pos q]
      have HF := Lib.hid f3
      clear f3
      go_wp2_with fail
      go_meet
      exact ⟨by first | rfl | simp [f2], by rw [HF.out], rfl⟩
    · have f : decide ((mid : Int) < (m : Int)) = false := decide_eq_false (by omega)
      have f2 : lo = a := by rw [HLH.out.1, if_neg q]
      have f3 : hi = m := by rw [HLH.out.2, if_neg q]
      have HF := Lib.hid (And.intro f2 f3)
      clear f2 f3
      go_wp2_with fail
      go_meet
      exact ⟨by rw [HF.out.1], by rw [HF.out.2], rfl⟩
  case rest =>
    obtain ⟨rfl, rfl, hw⟩ := hcut
    have hw := hw.symm
    subst hw
    obtain ⟨p, hp⟩ : ∃ p, p = nn - 1 := ⟨_, rfl⟩
    have e4 : (nn : Int) - 1 = (p : Int) := by omega
    have HP := Lib.hid hp
    have hp2 : p + 1 = nn := by omega
    clear hp g0 g1 e0 e1
    go_wp2_with fail
    go_loopg [20, 21] m (fun gas s20 s21 wr => ∃ i j : Nat, lo ≤ i ∧ i ≤ j ∧ j ≤ hi ∧ j - i ≤ gas ∧ s20 = .int .i64 i ∧ s21 = .int .i64 j ∧ SinceOf w wr ∧ (lo < i → ltOf ecmp (at0 l (p - (i - 1))) (at0 l (i - 1)) = false) ∧ (j < hi → ltOf ecmp (at0 l (p - j)) (at0 l j) = true))
    case atStart => exact ⟨lo, hi, Nat.le_refl _, bl2, Nat.le_refl _, by omega, rfl, rfl, by (repeat (first | (with_reducible exact SinceOf.refl _) | (with_reducible assumption) | (with_reducible refine SinceOf.alloc ?_ _) | (with_reducible refine SinceOf.drew ?_) | (with_reducible refine SinceOf.drewN ?_ _) | (with_reducible refine SinceOf.later ?_ _) | (with_reducible refine SinceOf.further ?_ _) | (with_reducible refine SinceOf.setCell ?_ (by first | exact Nat.le_refl _ | (simp; done) | omega | (simp; omega)) _))), fun h => absurd h (by omega), fun h => absurd h (by omega)⟩
    case round =>
      obtain ⟨i, j, hmi, hij, hjb, hgas, rfl, rfl, ⟨z, rfl⟩, hlo, hhi⟩ := hrel
      by_cases hlt : i < j
      · obtain ⟨h, hh⟩ : ∃ h, h = (i + j) / 2 := ⟨_, rfl⟩
        have q1 : i ≤ h := by omega
        have q2 : h < j := by omega
        have e5 : ((i : Int) + (j : Int)) / 2 = (h : Int) := by omega
        obtain ⟨y, hy⟩ : ∃ y, y = p - h := ⟨_, rfl⟩
        have e6 : (p : Int) - (h : Int) = (y : Int) := by omega
        have hyl : y < l.length := by omega
        have wy : IntKind.i64.wrap (y : Int) = (y : Int) := IntWalk.i64_in _ (by omega)
        have hlv := H.out.1.of (w' := z.wd) (by (repeat (first | (with_reducible exact SinceOf.refl _) | (with_reducible assumption) | (with_reducible refine SinceOf.alloc ?_ _) | (with_reducible refine SinceOf.drew ?_) | (with_reducible refine SinceOf.drewN ?_ _) | (with_reducible refine SinceOf.later ?_ _) | (with_reducible refine SinceOf.further ?_ _) | (with_reducible refine SinceOf.setCell ?_ (by first | exact Nat.le_refl _ | (simp; done) | omega | (simp; omega)) _))))
        have hO := hlv.row.there
        have x0 := hlv.row.v0 h (by omega)
        have x1 := hlv.row.v1 h (by omega)
        have y0 := hlv.row.v0 y (by omega)
        have y1 := hlv.row.v1 y (by omega)
        rw [at0_eq' (by omega)] at x0 x1 y0 y1
        have hhl : h < l.length := by omega
        have C := fun W (hW : SinceOf z.wd W) => (H.out.2.1.of (SinceOf.trans ⟨z, rfl⟩ hW)).calls (at0 l y) (at0 l h)
        have st1 : ltOf ecmp (at0 l y) (at0 l h) = false → (lo < h + 1 → ltOf ecmp (at0 l (p - (h + 1 - 1))) (at0 l (h + 1 - 1)) = false) := fun e _ => by
          rw [Nat.add_sub_cancel, ← hy]; exact e
        have st2 : ltOf ecmp (at0 l y) (at0 l h) = true → (h < hi → ltOf ecmp (at0 l (p - h)) (at0 l h) = true) := fun e _ => by
          rw [← hy]; exact e
        rw [ltOf_ecmp (at0 l y) (at0 l h)] at st1 st2
        have HL := Lib.hid (And.intro hlo (And.intro hhi (And.intro st1 st2)))
        clear hlo hhi st1 st2 hlv hh hy
        obtain ⟨⟨px, py⟩, hp⟩ : ∃ p, p = at0 l h := ⟨_, rfl⟩
        obtain ⟨⟨qx, qy⟩, hq⟩ : ∃ q, q = at0 l y := ⟨_, rfl⟩
        obtain ⟨v, hv⟩ : ∃ v, v = ecmp (at0 l y) (at0 l h) := ⟨_, rfl⟩
        rw [← hv] at C HL
        rw [← hp, ← hq] at C
        rw [← hp] at x0 x1
        rw [← hq] at y0 y1
        simp only at x0 x1 y0 y1 C
        clear hp hq hv
        obtain ⟨bv, hbv⟩ : ∃ bv, bv = decide (v < 0) := ⟨_, rfl⟩
        have gv : decide (v < 0) = bv := hbv.symm
        rw [gv] at HL
        clear hbv
        go_upto_region 35 with fail
        go_cut [171] from 158 to 171 (fun s171 wx => s171 = .bool (!bv) ∧ SinceOf z.wd wx)
        case first =>
          go_region_held3 (fun w' => w'.cell? ⟨g, off + h * 2, none⟩ = some (.int .i64 px) ∧ w'.cell? ⟨g, off + h * 2 + 1, none⟩ = some (.int .i64 py) ∧ w'.cell? ⟨g, off + y * 2, none⟩ = some (.int .i64 qx) ∧ w'.cell? ⟨g, off + y * 2 + 1, none⟩ = some (.int .i64 qy)) ((simp [go_sem, *]))
            ((go_at_call 63; (with_reducible refine (C _ (by (repeat (first | (with_reducible exact SinceOf.refl _) | (with_reducible assumption) | (with_reducible refine SinceOf.alloc ?_ _) | (with_reducible refine SinceOf.drew ?_) | (with_reducible refine SinceOf.drewN ?_ _) | (with_reducible refine SinceOf.later ?_ _) | (with_reducible refine SinceOf.further ?_ _) | (with_reducible refine SinceOf.setCell ?_ (by first | exact Nat.le_refl _ | (simp; done) | omega | (simp; omega)) _))))).calls.mono ?_); rintro e _ ⟨rfl, y1, rfl⟩))
          all_goals
            go_wp2_with fail
            go_meet
            exact ⟨by simp [gv], by (repeat (first | (with_reducible exact SinceOf.refl _) | (with_reducible assumption) | (with_reducible refine SinceOf.alloc ?_ _) | (with_reducible refine SinceOf.drew ?_) | (with_reducible refine SinceOf.drewN ?_ _) | (with_reducible refine SinceOf.later ?_ _) | (with_reducible refine SinceOf.further ?_ _) | (with_reducible refine SinceOf.setCell ?_ (by first | exact Nat.le_refl _ | (simp; done) | omega | (simp; omega)) _)))⟩
        case rest =>
          obtain ⟨rfl, ⟨z2, rfl⟩⟩ := hcut
          clear C x0 x1 y0 y1
          cases bv
          · go_wp2_with fail
            go_roundg (j - (h + 1))
            case measure => omega
            case rel => exact ⟨h + 1, j, by omega, by omega, hjb, Nat.le_refl _, by go_num, rfl, by (repeat (first | (with_reducible exact SinceOf.refl _) | (with_reducible assumption) | (with_reducible refine SinceOf.alloc ?_ _) | (with_reducible refine SinceOf.drew ?_) | (with_reducible refine SinceOf.drewN ?_ _) | (with_reducible refine SinceOf.later ?_ _) | (with_reducible refine SinceOf.further ?_ _) | (with_reducible refine SinceOf.setCell ?_ (by first | exact Nat.le_refl _ | (simp; done) | omega | (simp; omega)) _))), HL.out.2.2.1 (by first | rfl | trivial), HL.out.2.1⟩
          · go_wp2_with fail
            go_roundg (h - i)
            case measure => omega
            case rel => exact ⟨i, h, hmi, q1, by omega, Nat.le_refl _, rfl, rfl, by (repeat (first | (with_reducible exact SinceOf.refl _) | (with_reducible assumption) | (with_reducible refine SinceOf.alloc ?_ _) | (with_reducible refine SinceOf.drew ?_) | (with_reducible refine SinceOf.drewN ?_ _) | (with_reducible refine SinceOf.later ?_ _) | (with_reducible refine SinceOf.further ?_ _) | (with_reducible refine SinceOf.setCell ?_ (by first | exact Nat.le_refl _ | (simp; done) | omega | (simp; omega)) _))), HL.out.1, HL.out.2.2.2 (by first | rfl | trivial)⟩
      · obtain rfl : i = j := by omega
        have CU : Cut (ltOf ecmp) l a m b i := by
          have q1 := HLH.out
          have q2 := HMID.out
          have q3 := HP.out
          rw [q3, q2.2, q2.1] at hlo hhi
          rw [q2.2, q2.1] at q1
          exact cut_of H.out.2.2.1 H.out.2.2.2.1 h3 (by omega) (by omega) H.out.2.2.2.2.1 H.out.2.2.2.2.2.1 q1 hmi hjb hlo hhi
        obtain ⟨e, he⟩ : ∃ e, e = nn - i := ⟨_, rfl⟩
        have e5 : (nn : Int) - (i : Int) = (e : Int) := by omega
        have be : mid ≤ e ∧ m ≤ e ∧ e ≤ b ∧ i ≤ mid ∧ i ≤ m := by
          have := HMID.out; omega
        obtain ⟨be1, be2, be3, be4, be5⟩ := be
        have hee : (a + b) / 2 + m - i = e := by have := HMID.out; omega
        have SO := fun (l' : List Pt) (hR : Rot l l' i m e) => CU.sorted H.out.2.2.1 H.out.2.2.2.1 h3 (show a < m by omega) (show m < b by omega) H.out.2.2.2.2.1 H.out.2.2.2.2.2.1 (l' := l') (by rw [hee]; exact hR)
        rw [hee, ← HMID.out.1] at SO
        have HS := Lib.hid SO
        clear hlo hhi CU SO he hee
        have LZ := H.out.1.of (w' := z.wd) (by (repeat (first | (with_reducible exact SinceOf.refl _) | (with_reducible assumption) | (with_reducible refine SinceOf.alloc ?_ _) | (with_reducible refine SinceOf.drew ?_) | (with_reducible refine SinceOf.drewN ?_ _) | (with_reducible refine SinceOf.later ?_ _) | (with_reducible refine SinceOf.further ?_ _) | (with_reducible refine SinceOf.setCell ?_ (by first | exact Nat.le_refl _ | (simp; done) | omega | (simp; omega)) _))))
        have GZ : w.grownBy z.wd (some g) := SinceOf.grown_any ⟨z, rfl⟩ _
        have HZ := Lib.hid (And.intro LZ GZ)
        clear LZ GZ
        go_upto_region 39 with fail
        go_cut [185] from 178 to 185 (fun s185 wx => s185 = .bool (decide (i < m) && decide (m < e)) ∧ wx = z.wd)
        case first =>
          by_cases q1 : i < m
          · have f1 : decide ((i : Int) < (m : Int)) = true := decide_eq_true (by omega)
            by_cases q2 : m < e
            · have f2 : decide ((m : Int) < (e : Int)) = true := decide_eq_true (by omega)
              go_wp2_with fail
              go_meet
              exact ⟨by simp [q1, q2], rfl⟩
            · have f2 : decide ((m : Int) < (e : Int)) = false := decide_eq_false (by omega)
              go_wp2_with fail
              go_meet
              exact ⟨by simp [q1, q2], rfl⟩
          · have f1 : decide ((i : Int) < (m : Int)) = false := decide_eq_false (by omega)
            go_wp2_with fail
            go_meet
            exact ⟨by simp [q1], rfl⟩
        case rest =>
          obtain ⟨rfl, rfl⟩ := hcut
          obtain ⟨t1, ht1⟩ : ∃ t1, t1 = (decide (i < m) && decide (m < e)) := ⟨_, rfl⟩
          rw [← ht1]
          have HT1 := Lib.hid ht1
          clear ht1
          go_upto_if 185 with fail
          go_cut [] from 186 to 191 (fun wx => ∃ l1, Live encV 2 wx g off l1 ∧ Rot l l1 i m e ∧ Re l l1 i e ∧ w.grownBy wx (some g))
          case first =>
            cases t1
            · have q := HT1.out
              simp at q
              go_wp2_with fail
              go_meet
              exact ⟨l, HZ.out.1, Rot.none ⟨be5, be2⟩ (by omega), Re.refl _ _ _, HZ.out.2⟩
            · have q := HT1.out
              simp at q
              have RO := rotate_any g off c i m e l z.wd (fvE b7) HZ.out.1 hn q.1 q.2 (by omega)
              unfold fvE at RO
              clear q
              go_wp2_with fail
              refine RO.mono ?_
              rintro e9 w9 ⟨rfl, l1, hl1, hr1, hr2, hg1⟩
              have HR := Lib.hid (And.intro hl1 (And.intro hr1 (And.intro hr2 hg1)))
              clear RO hl1 hr1 hr2 hg1
              go_wp2_with fail
              go_meet
              exact ⟨l1, HR.out.1, HR.out.2.1, HR.out.2.2.1, HZ.out.2.trans HR.out.2.2.2⟩
          case rest =>
            obtain ⟨l1, hl1, hr1, hr2, hg1⟩ := hcut
            obtain ⟨u1, rfl⟩ : ∃ u, u = wc := ⟨_, rfl⟩
            have S1 := HS.out l1 hr1
            have hd1 := hr2.allD H.out.2.2.2.1
            have hln1 := hr2.len
            have H1 := Lib.hid (And.intro hl1 (And.intro (hr2.mono (show a ≤ i by omega) be3) (And.intro hg1 (And.intro hd1 (And.intro hln1 (H.out.2.1.kept hg1))))))
            have HS1 := Lib.hid S1
            clear hl1 hr1 hr2 hg1 S1 hd1 hln1 HS HT1 HZ
            go_upto_region 41 with fail
            go_cut [199] from 192 to 199 (fun s199 wx => s199 = .bool (decide (a < i) && decide (i < mid)) ∧ wx = u1)
            case first =>
              by_cases q1 : a < i
              · have f1 : decide ((a : Int) < (i : Int)) = true := decide_eq_true (by omega)
                by_cases q2 : i < mid
                · have f2 : decide ((i : Int) < (mid : Int)) = true := decide_eq_true (by omega)
                  go_wp2_with fail
                  go_meet
                  exact ⟨by simp [q1, q2], rfl⟩
                · have f2 : decide ((i : Int) < (mid : Int)) = false := decide_eq_false (by omega)
                  go_wp2_with fail
                  go_meet
                  exact ⟨by simp [q1, q2], rfl⟩
              · have f1 : decide ((a : Int) < (i : Int)) = false := decide_eq_false (by omega)
                go_wp2_with fail
                go_meet
                exact ⟨by simp [q1], rfl⟩
            case rest =>
              obtain ⟨rfl, rfl⟩ := hcut
              obtain ⟨t2, ht2⟩ : ∃ t, t = (decide (a < i) && decide (i < mid)) := ⟨_, rfl⟩
              rw [← ht2]
              have HT2 := Lib.hid ht2
              clear ht2
              go_upto_if 199 with fail
              go_cut [] from 200 to 205 (fun wx => ∃ l2, Live encV 2 wx g off l2 ∧ Re l1 l2 a mid ∧ Sd (ltOf ecmp) l2 a mid ∧ w.grownBy wx (some g))
              case first =>
                cases t2
                · have q := HT2.out
                  simp at q
                  have hsd : Sd (ltOf ecmp) l1 a mid := by
                    by_cases q1 : a < i
                    · have := q q1
                      obtain rfl : i = mid := by omega
                      exact HS1.out.1
                    · obtain rfl : a = i := by omega
                      exact HS1.out.2.1
                  have HQ := Lib.hid hsd
                  clear q hsd
                  go_wp2_with fail
                  go_meet
                  exact ⟨l1, H1.out.1, Re.refl _ _ _, HQ.out, H1.out.2.2.1⟩
                · have q := HT2.out
                  simp at q
                  have I := H.out.2.2.2.2.2.2 a i mid l1 wc (by omega) H1.out.1 H1.out.2.2.2.2.2 H1.out.2.2.2.1 (by rw [H1.out.2.2.2.2.1]; exact hn) q.1 q.2 (by rw [H1.out.2.2.2.2.1]; omega) HS1.out.1 HS1.out.2.1
                  rw [H1.out.2.2.2.2.1] at I
                  unfold fvE at I
                  clear q
                  go_wp2_with fail
                  refine I.mono ?_
                  rintro e9 w9 ⟨rfl, l2, hl2, hr2, hs2, hg2⟩
                  have HR := Lib.hid (And.intro hl2 (And.intro hr2 (And.intro hs2 hg2)))
                  clear I hl2 hr2 hs2 hg2
                  go_wp2_with fail
                  go_meet
                  exact ⟨l2, HR.out.1, HR.out.2.1, HR.out.2.2.1, H1.out.2.2.1.trans HR.out.2.2.2⟩
              case rest =>
                obtain ⟨l2, hl2, hr2, hs2, hg2⟩ := hcut
                obtain ⟨u2, rfl⟩ : ∃ u, u = wc := ⟨_, rfl⟩
                have H2 := Lib.hid (And.intro hl2 (And.intro hr2 (And.intro hs2 (And.intro hg2 (And.intro (hr2.allD H1.out.2.2.2.1) (And.intro (hr2.len.trans H1.out.2.2.2.2.1) (H.out.2.1.kept hg2)))))))
                clear hl2 hr2 hs2 hg2 HT2
                go_upto_region 43 with fail
                go_cut [213] from 206 to 213 (fun s213 wx => s213 = .bool (decide (mid < e) && decide (e < b)) ∧ wx = u2)
                case first =>
                  by_cases q1 : mid < e
                  · have f1 : decide ((mid : Int) < (e : Int)) = true := decide_eq_true (by omega)
                    by_cases q2 : e < b
                    · have f2 : decide ((e : Int) < (b : Int)) = true := decide_eq_true (by omega)
                      go_wp2_with fail
                      go_meet
                      exact ⟨by simp [q1, q2], rfl⟩
                    · have f2 : decide ((e : Int) < (b : Int)) = false := decide_eq_false (by omega)
                      go_wp2_with fail
                      go_meet
                      exact ⟨by simp [q1, q2], rfl⟩
                  · have f1 : decide ((mid : Int) < (e : Int)) = false := decide_eq_false (by omega)
                    go_wp2_with fail
                    go_meet
                    exact ⟨by simp [q1], rfl⟩
                case rest =>
                  obtain ⟨rfl, rfl⟩ := hcut
                  obtain ⟨t3, ht3⟩ : ∃ t, t = (decide (mid < e) && decide (e < b)) := ⟨_, rfl⟩
                  rw [← ht3]
                  have HT3 := Lib.hid ht3
                  clear ht3
                  have fin : ∀ l3, Re l2 l3 mid b → Sd (ltOf ecmp) l3 mid b → Re l l3 a b ∧ Sd (ltOf ecmp) l3 a b := fun l3 r3 s3 =>
                    ⟨(H1.out.2.1.trans (H2.out.2.1.mono (Nat.le_refl _) (by omega))).trans (r3.mono (by omega) (Nat.le_refl _)), sd_join H2.out.2.1 r3 (by omega) (by omega) H2.out.2.2.1 s3 HS1.out.2.2.2.2⟩
                  have HF := Lib.hid fin
                  clear fin
                  cases t3
                  · have q := HT3.out
                    simp at q
                    have hsd : Sd (ltOf ecmp) l2 mid b := by
                      by_cases q1 : mid < e
                      · have := q q1
                        obtain rfl : e = b := by omega
                        exact HS1.out.2.2.1.out H2.out.2.1 (.inr (Nat.le_refl _))
                      · obtain rfl : mid = e := by omega
                        exact HS1.out.2.2.2.1.out H2.out.2.1 (.inr (Nat.le_refl _))
                    have HQ := Lib.hid hsd
                    clear q hsd
                    go_wp2_with fail
                    go_returns
                    exact ⟨rfl, l2, H2.out.1, (HF.out l2 (Re.refl _ _ _) HQ.out).1, (HF.out l2 (Re.refl _ _ _) HQ.out).2, H2.out.2.2.2.1⟩
                  · have q := HT3.out
                    simp at q
                    have I := H.out.2.2.2.2.2.2 mid e b l2 wc (by omega) H2.out.1 H2.out.2.2.2.2.2.2 H2.out.2.2.2.2.1 (by rw [H2.out.2.2.2.2.2.1]; exact hn) q.1 q.2 (by rw [H2.out.2.2.2.2.2.1]; omega) (HS1.out.2.2.1.out H2.out.2.1 (.inr (Nat.le_refl _))) (HS1.out.2.2.2.1.out H2.out.2.1 (.inr (by omega)))
                    rw [H2.out.2.2.2.2.2.1] at I
                    unfold fvE at I
                    clear q
                    go_wp2_with fail
                    refine I.mono ?_
                    rintro e9 w9 ⟨rfl, l3, hl3, hr3, hs3, hg3⟩
                    have HR := Lib.hid (And.intro hl3 (And.intro hr3 (And.intro hs3 hg3)))
                    clear I hl3 hr3 hs3 hg3
                    go_wp2_with fail
                    go_returns
                    exact ⟨rfl, l3, HR.out.1, (HF.out l3 HR.out.2.1 HR.out.2.2.1).1, (HF.out l3 HR.out.2.1 HR.out.2.2.1).2, H2.out.2.2.2.1.trans HR.out.2.2.2⟩
/-- The whole: two sorted ranges are merged. -/
theorem symMerge_any {D : Pt → Prop} (hO : OrdOn D (ltOf ecmp)) (b7 g off c : Nat) : ∀ (k a m b : Nat) (l : List Pt) (w : World), b - a ≤ k → Live encV 2 w g off l → CmpAt w b7 g → (∀ x ∈ l, D x) → l.length ≤ 100000 → a < m → m < b → b ≤ l.length → Sd (ltOf ecmp) l a m → Sd (ltOf ecmp) l m b →
    Calls Tryz.prog 87 #[.slice (some ⟨g, off, none⟩) l.length c, .int .i64 a, .int .i64 m, .int .i64 b, fvE b7] w (SymRes w g off l a b)
  | 0, a, m, b, l, w, hk, _, _, _, _, h1, h2, _, _, _ => absurd hk (by omega)
  | k + 1, a, m, b, l, w, hk, hL, hC, hD, hn, h1, h2, h3, s1, s2 => by
    by_cases m1 : m = a + 1
    · subst m1
      exact symOne_any hO b7 g off c a b l w hL hC hD hn h2 h3 s2
    · by_cases b1 : b = m + 1
      · subst b1
        exact symLast_any hO b7 g off c a m l w hL hC hD hn (by omega) h3 s1
      · exact symRec_any hO b7 g off c a m b l w (fun a' m' b' l' w' hlt => symMerge_any hO b7 g off c k a' m' b' l' w' (by omega)) hL hC hD hn (by omega) (by omega) h3 s1 s2
end Go.Proofs.YtpbgimdbhgahkaaGreat
/- Layer 15: slices.SortStableFunc puts rows of vectors in order, whatever their number. -/
namespace Go.Proofs.YtpbgimdbhgahkaaGreat
open Go.RowKit Go.Sort
set_option linter.unusedVariables false
set_option linter.unusedSimpArgs false
attribute [local go_sem ↓] Go.wp_at_zero Go.wp_at_succ

/-- Insertion sort, at lists. -/
def insI (lt : Pt → Pt → Bool) (a : Nat) : Nat → List Pt → List Pt
  | 0, l => l
  | j + 1, l => if a < j + 1 ∧ lt (at0 l (j + 1)) (at0 l j) = true then insI lt a j (swp2 l (j + 1) j) else l
theorem get_at0 (l : List Pt) (i : Nat) : l.toArray[i]! = at0 l i := by
  unfold at0
  by_cases h : i < l.length
  · simp [h, List.getD_eq_getElem?_getD]
  · simp [h, List.getD_eq_getElem?_getD]; rfl
theorem swp_list (l : List Pt) (i j : Nat) : swp l.toArray i j = (swp2 l i j).toArray := by
  unfold swp swp2
  rw [get_at0, get_at0]
  simp
theorem insInner_list (lt : Pt → Pt → Bool) (a : Nat) : ∀ (j : Nat) (l : List Pt), insInner lt a j l.toArray = (insI lt a j l).toArray
  | 0, l => by rw [insInner_stop lt a 0 _ (.inl (Nat.zero_le _))]; rfl
  | j + 1, l => by
    unfold insI
    by_cases h : a < j + 1 ∧ lt (at0 l (j + 1)) (at0 l j) = true
    · rw [if_pos h, insInner_go lt a (j + 1) _ h.1 (by rw [get_at0, Nat.add_sub_cancel, get_at0]; exact h.2), Nat.add_sub_cancel, swp_list]
      exact insInner_list lt a j _
    · rw [if_neg h, insInner_stop lt a (j + 1) _ (by
        rw [get_at0, Nat.add_sub_cancel, get_at0]
        by_cases q : a < j + 1
        · right
          cases e : lt (at0 l (j + 1)) (at0 l j)
          · rfl
          · exact absurd ⟨q, e⟩ h
        · left; omega)]
section
variable {D : Pt → Prop} {lt : Pt → Pt → Bool} {a b : Nat}
theorem insI_spec (hO : OrdOn D lt) : ∀ (j : Nat) (l : List Pt), (∀ x ∈ l, D x) → a ≤ j → j < b → b ≤ l.length → (∀ i k, a ≤ i → i < k → k < b → k ≠ j → lt (at0 l k) (at0 l i) = false) → Re l (insI lt a j l) a b ∧ Sd lt (insI lt a j l) a b
  | 0, l, hD, h1, h2, h3, hs => ⟨Re.refl _ _ _, fun i k q1 q2 q3 => hs i k q1 q2 q3 (by omega)⟩
  | j + 1, l, hD, h1, h2, h3, hs => by
    unfold insI
    by_cases h : a < j + 1 ∧ lt (at0 l (j + 1)) (at0 l j) = true
    · rw [if_pos h]
      have hr : Re l (swp2 l (j + 1) j) a b := Re.swp2 (by omega) (by omega) h3
      have hat := fun k => swp2_at (l := l) (i := j + 1) (j := j) (by omega) (by omega) k
      have := insI_spec hO j (swp2 l (j + 1) j) (hr.allD hD) (by omega) (by omega) (by rw [swp2_len]; exact h3) (fun i k q1 q2 q3 q4 => by
        rw [hat k, hat i, if_neg q4]
        by_cases e1 : k = j + 1
        · rw [if_pos e1]
          by_cases e2 : i = j
          · rw [if_pos e2]
            exact hO.asym _ _ (at0_D hD (by omega)) (at0_D hD (by omega)) h.2
          · rw [if_neg e2, if_neg (by omega)]
            exact hs i j q1 (by omega) (by omega) (by omega)
        · rw [if_neg e1]
          by_cases e2 : i = j
          · rw [if_pos e2]
            exact hs (j + 1) k (by omega) (by omega) q3 e1
          · rw [if_neg e2]
            by_cases e3 : i = j + 1
            · rw [if_pos e3]
              exact hs j k (by omega) (by omega) q3 e1
            · rw [if_neg e3]
              exact hs i k q1 q2 q3 e1)
      exact ⟨hr.trans this.1, this.2⟩
    · rw [if_neg h]
      refine ⟨Re.refl _ _ _, fun i k q1 q2 q3 => ?_⟩
      by_cases e1 : k = j + 1
      · subst e1
        have hlt : lt (at0 l (j + 1)) (at0 l j) = false := by
          cases e : lt (at0 l (j + 1)) (at0 l j)
          · rfl
          · exact absurd ⟨by omega, e⟩ h
        by_cases e2 : i = j
        · rw [e2]; exact hlt
        · exact hO.ntrans _ _ _ (at0_D hD (by omega)) (at0_D hD (by omega)) (at0_D hD (by omega)) (hs i j q1 (by omega) (by omega) (by omega)) hlt
      · exact hs i k q1 q2 q3 e1
theorem insO_spec (hO : OrdOn D lt) : ∀ (n i : Nat) (l : List Pt), b - i ≤ n → (∀ x ∈ l, D x) → a < i → b ≤ l.length → Sd lt l a i → ∃ l', insOuter lt a b i l.toArray = l'.toArray ∧ Re l l' a b ∧ Sd lt l' a b
  | 0, i, l, hn, hD, h1, h3, hs => ⟨l, insOuter_stop lt a b i _ (by omega), Re.refl _ _ _, hs.sub (Nat.le_refl _) (by omega)⟩
  | n + 1, i, l, hn, hD, h1, h3, hs => by
    by_cases hi : i < b
    · obtain ⟨r1, r2⟩ := insI_spec hO (a := a) (b := i + 1) i l hD (by omega) (by omega) (by omega) (fun x y q1 q2 q3 q4 => hs x y q1 q2 (by omega))
      obtain ⟨l', e, r3, r4⟩ := insO_spec hO n (i + 1) (insI lt a i l) (by omega) (r1.allD hD) (by omega) (by rw [r1.len]; exact h3) r2
      exact ⟨l', by rw [insOuter_go lt a b i _ hi, insInner_list]; exact e, (r1.mono (Nat.le_refl _) (by omega)).trans r3, r4⟩
    · exact ⟨l, insOuter_stop lt a b i _ hi, Re.refl _ _ _, hs.sub (Nat.le_refl _) (by omega)⟩
theorem insertion_spec (hO : OrdOn D lt) (l : List Pt) (hD : ∀ x ∈ l, D x) (h3 : b ≤ l.length) : Re l (insertionSort lt l.toArray a b).toList a b ∧ Sd lt (insertionSort lt l.toArray a b).toList a b := by
  obtain ⟨l', e, r1, r2⟩ := insO_spec hO (a := a) (b := b) (b - (a + 1)) (a + 1) l (Nat.le_refl _) hD (by omega) h3 (fun i j q1 q2 q3 => absurd q2 (by omega))
  have : insertionSort lt l.toArray a b = l'.toArray := e
  rw [this]
  exact ⟨r1, r2⟩
end
/-- The blocks from the s-th on are in order. -/
def Bl (lt : Pt → Pt → Bool) (L : List Pt) (bs n : Nat) (s : Nat) : Prop := Sd lt L (s * bs) (min (s * bs + bs) n)
theorem bl_two {lt : Pt → Pt → Bool} {L : List Pt} {bs n t : Nat} : (2 * t) * bs = t * (2 * bs) := by rw [Nat.mul_comm 2 t, Nat.mul_assoc]
theorem bl_none {lt : Pt → Pt → Bool} {L : List Pt} {bs n s : Nat} (h : n ≤ s * bs) : Bl lt L bs n s := fun i j q1 q2 q3 => absurd q3 (by rw [Nat.min_eq_right (by omega)]; omega)
theorem mul_lt_of {s t bs : Nat} (h : s < t) : s * bs + bs ≤ t * bs := by
  have := Nat.mul_le_mul_right bs (show s + 1 ≤ t from h)
  rw [Nat.succ_mul] at this
  exact this

set_option maxRecDepth 100000 in
set_option maxHeartbeats 8000000 in
theorem stableC_any {D : Pt → Prop} (hO : OrdOn D (ltOf ecmp)) (b7 g off c : Nat) (l : List (Int × Int)) (w : World) (hL : Live encV 2 w g off l) (hC : CmpAt w b7 g) (hD : ∀ x ∈ l, D x) (hn : l.length ≤ 100000) :
    Calls Tryz.prog 74 #[.slice (some ⟨g, off, none⟩) l.length c, .int .i64 l.length, fvE b7] w (SymRes w g off l 0 l.length) := by
  have I := fun (a b : Nat) (L : List Pt) (W : World) (hlv : Live encV 2 W g off L) (hc : CmpAt W b7 g) (hl : L.length = l.length) (hab : a ≤ b) (hb : b ≤ l.length) => (by
    have := insert_any g off c b7 a b L W hlv (by omega) hab (by omega) hc.cell ⟨⟨hc.lt⟩⟩ hc.ne
    rw [hl] at this
    exact this : Calls Tryz.prog 86 #[.slice (some ⟨g, off, none⟩) l.length c, .int .i64 a, .int .i64 b, fvE b7] W _)
  have M := fun (a m b : Nat) (L : List Pt) (W : World) (hlv : Live encV 2 W g off L) (hc : CmpAt W b7 g) (hd : ∀ x ∈ L, D x) (hl : L.length = l.length) (h1 : a < m) (h2 : m < b) (h3 : b ≤ l.length) (s1 : Sd (ltOf ecmp) L a m) (s2 : Sd (ltOf ecmp) L m b) => (by
    have := symMerge_any hO b7 g off c (b - a) a m b L W (Nat.le_refl _) hlv hc hd (by omega) h1 h2 (by omega) s1 s2
    rw [hl] at this
    exact this : Calls Tryz.prog 87 #[.slice (some ⟨g, off, none⟩) l.length c, .int .i64 a, .int .i64 m, .int .i64 b, fvE b7] W _)
  have H := Lib.hid (And.intro hL (And.intro hC (And.intro hO (And.intro hD (And.intro I M)))))
  clear hL hC hD hO I M
  unfold SymRes fvE
  obtain ⟨n, hnn⟩ : ∃ n, n = l.length := ⟨_, rfl⟩
  rw [← hnn] at hn ⊢
  have HN := Lib.hid hnn
  clear hnn
  go_enter Tryz.func74, Tryz.ntmps74
  go_wp2_with fail
  go_loopg [7, 8] n (fun gas s7 s8 wr => ∃ (t : Nat) (L : List Pt), t * 20 ≤ n ∧ n - t * 20 ≤ gas ∧ s7 = .int .i64 ((t * 20 : Nat) : Int) ∧ s8 = .int .i64 ((t * 20 + 20 : Nat) : Int) ∧ Live encV 2 wr g off L ∧ Re l L 0 n ∧ (∀ s, s < t → Bl (ltOf ecmp) L 20 n s) ∧ w.grownBy wr (some g))
  case atStart => exact ⟨0, l, by omega, by omega, rfl, rfl, H.out.1, Re.refl _ _ _, fun s hs => absurd hs (by omega), World.grownBy.refl _ _⟩
  case round =>
    obtain ⟨t, L, htn, hgas, rfl, rfl, hlv, hre, hbl, hgr⟩ := hrel
    obtain ⟨u, rfl⟩ : ∃ u, u = wr := ⟨_, rfl⟩
    obtain ⟨A, hA⟩ : ∃ A, A = t * 20 := ⟨_, rfl⟩
    rw [← hA] at htn hgas ⊢
    obtain ⟨B, hB⟩ : ∃ B, B = A + 20 := ⟨_, rfl⟩
    rw [← hB]
    have hAB1 : B ≤ A + 20 := by omega
    have hAB2 : A + 20 ≤ B := by omega
    have hAn : A ≤ n := by omega
    have hcm := H.out.2.1.kept hgr
    have hll : L.length = l.length := hre.len
    have hdl := hre.allD H.out.2.2.2.1
    by_cases hlt : B ≤ n
    · have I := H.out.2.2.2.2.1 A B L u hlv hcm hll (by omega) (by rw [← HN.out]; exact hlt)
      rw [← HN.out] at I
      unfold fvE at I
      obtain ⟨r1, r2⟩ := insertion_spec H.out.2.2.1 (a := A) (b := B) L hdl (by rw [hll, ← HN.out]; exact hlt)
      have hbl' : ∀ s, s < t + 1 → Bl (ltOf ecmp) (insertionSort (ltOf ecmp) L.toArray A B).toList 20 n s := fun s hs => by
        rcases Nat.lt_or_ge s t with q | q
        · have := hbl s q
          unfold Bl at this ⊢
          exact this.out r1 (.inl (by omega))
        · obtain rfl : s = t := by omega
          unfold Bl
          rw [← hA, Nat.min_eq_left (by omega), ← hB]
          exact r2
      have HS := Lib.hid (And.intro hbl' (And.intro (hre.trans (r1.mono (Nat.zero_le _) hlt)) (And.intro hgr (And.intro hA hB))))
      have hgas2 : n - B < n - A := by omega
      have hBn : decide ((B : Int) ≤ (n : Int)) = true := decide_eq_true (by omega)
      clear hbl hre hgr hlv hcm hdl r1 r2 hbl' hA hB hll hAB1 hAB2
      go_wp2_with fail
      refine I.mono ?_
      rintro e w9 ⟨rfl, hl9, hg9⟩
      have HR := Lib.hid (And.intro hl9 hg9)
      clear I hl9 hg9
      go_wp2_with fail
      go_roundg (n - B)
      case measure => have := HS.out.2.2.2; omega
      case rel => exact ⟨t + 1, _, by have := HS.out.2.2.2; omega, by have := HS.out.2.2.2; omega, (by have := HS.out.2.2.2; congr 1; omega), (by have := HS.out.2.2.2; congr 1; omega), HR.out.1, HS.out.2.1, HS.out.1, HS.out.2.2.1.trans HR.out.2⟩
    · have I := H.out.2.2.2.2.1 A n L u hlv hcm hll (by omega) (by rw [HN.out]; exact Nat.le_refl _)
      rw [← HN.out] at I
      unfold fvE at I
      obtain ⟨r1, r2⟩ := insertion_spec H.out.2.2.1 (a := A) (b := n) L hdl (by rw [hll, ← HN.out]; exact Nat.le_refl _)
      have hbl' : ∀ s, Bl (ltOf ecmp) (insertionSort (ltOf ecmp) L.toArray A n).toList 20 n s := fun s => by
        rcases Nat.lt_trichotomy s t with q | q | q
        · have := hbl s q
          unfold Bl at this ⊢
          exact this.out r1 (.inl (by omega))
        · subst q
          unfold Bl
          rw [← hA, Nat.min_eq_right (by omega)]
          exact r2
        · exact bl_none (by omega)
      have HS := Lib.hid (And.intro hbl' (And.intro (hre.trans (r1.mono (Nat.zero_le _) (Nat.le_refl _))) hgr))
      have hBn : decide ((B : Int) ≤ (n : Int)) = false := decide_eq_false (by omega)
      clear hbl hre hgr hlv hcm hdl r1 r2 hbl' hA hB hll hAB1 hAB2
      go_wp2_with fail
      refine I.mono ?_
      rintro e w9 ⟨rfl, hl9, hg9⟩
      have HR := Lib.hid (And.intro hl9 (HS.out.2.2.trans hg9))
      clear I hl9 hg9
      go_wp2_with fail
      go_loopg [6, 7, 8] n (fun gas s6 s7 s8 wr => ∃ (bs : Nat) (L : List Pt), 20 ≤ bs ∧ bs ≤ 2 * n + 20 ∧ n - bs ≤ gas ∧ s6 = .int .i64 (bs : Int) ∧ Live encV 2 wr g off L ∧ Re l L 0 n ∧ (∀ s, Bl (ltOf ecmp) L bs n s) ∧ w.grownBy wr (some g))
      case atStart => exact ⟨20, _, by omega, by omega, by omega, rfl, HR.out.1, HS.out.2.1, HS.out.1, HR.out.2⟩
      case round =>
        clear HS HR
        obtain ⟨bs, L, hb20, hb2, hgas, rfl, hlv, hre, hbl, hgr⟩ := hrel
        obtain ⟨u, rfl⟩ : ∃ u, u = wr := ⟨_, rfl⟩
        have HB := Lib.hid (And.intro hlv (And.intro hre (And.intro hbl hgr)))
        clear hlv hre hbl hgr
        by_cases hlt : bs < n
        · obtain ⟨b2, hb2d⟩ : ∃ b2, b2 = 2 * bs := ⟨_, rfl⟩
          have hbu1 : b2 ≤ 2 * bs := by omega
          have hbu2 : 2 * bs ≤ b2 := by omega
          have HB2 := Lib.hid hb2d
          have e1 : 2 * (bs : Int) = (b2 : Int) := by omega
          have e2 : (bs : Int) * 2 = (b2 : Int) := by omega
          have wb : IntKind.i64.wrap (b2 : Int) = (b2 : Int) := IntWalk.i64_in _ (by omega)
          clear hb2d
          go_wp2_with fail
          go_loopg [7, 8] n (fun gas s7 s8 wr => ∃ (t : Nat) (L : List Pt), t * b2 ≤ n ∧ n - t * b2 ≤ gas ∧ s7 = .int .i64 ((t * b2 : Nat) : Int) ∧ s8 = .int .i64 ((t * b2 + b2 : Nat) : Int) ∧ Live encV 2 wr g off L ∧ Re l L 0 n ∧ (∀ s, s < t → Bl (ltOf ecmp) L b2 n s) ∧ (∀ s, 2 * t ≤ s → Bl (ltOf ecmp) L bs n s) ∧ w.grownBy wr (some g))
          case atStart => exact ⟨0, L, by omega, by omega, (by first | rfl | simp), (by first | rfl | simp), HB.out.1, HB.out.2.1, fun s hs => absurd hs (by omega), fun s _ => HB.out.2.2.1 s, HB.out.2.2.2⟩
          case round =>
            clear HB
            obtain ⟨t, L, htn, hgas3, rfl, rfl, hlv, hre, hbl, hbl2, hgr⟩ := hrel
            obtain ⟨u, rfl⟩ : ∃ u, u = wr := ⟨_, rfl⟩
            have d0 : (2 * t) * bs = t * b2 := by rw [HB2.out]; exact bl_two (lt := ltOf ecmp) (L := L) (n := n)
            have d1 : (2 * t + 1) * bs = t * b2 + bs := by rw [Nat.succ_mul, d0]
            have d2 : (t + 1) * b2 = t * b2 + b2 := Nat.succ_mul _ _
            have S0 := hbl2 (2 * t) (Nat.le_refl _)
            have S1 := hbl2 (2 * t + 1) (by omega)
            unfold Bl at S0 S1
            rw [d0] at S0
            rw [d1] at S1
            obtain ⟨A, hA⟩ : ∃ A, A = t * b2 := ⟨_, rfl⟩
            rw [← hA] at d0 d1 d2 S0 S1 htn hgas3 ⊢
            obtain ⟨B, hB⟩ : ∃ B, B = A + b2 := ⟨_, rfl⟩
            rw [← hB]
            obtain ⟨m, hm⟩ : ∃ m, m = A + bs := ⟨_, rfl⟩
            have e3 : (A : Int) + (bs : Int) = (m : Int) := by omega
            have hmu1 : m ≤ A + bs := by omega
            have hmu2 : A + bs ≤ m := by omega
            have hBu1 : B ≤ A + b2 := by omega
            have hBu2 : A + b2 ≤ B := by omega
            rw [← hm] at S0 S1 d1
            have hcm := H.out.2.1.kept hgr
            have hll : L.length = l.length := hre.len
            have hdl := hre.allD H.out.2.2.2.1
            have old : ∀ {L' : List Pt} {b : Nat}, Re L L' A b → ∀ s, s < t → Bl (ltOf ecmp) L' b2 n s := fun {L' b} hr s hs => by
              have := hbl s hs
              have q := mul_lt_of (bs := b2) hs
              unfold Bl at this ⊢
              exact this.out hr (.inl (by omega))
            by_cases hBn : B ≤ n
            · rw [Nat.min_eq_left (by omega)] at S0 S1
              have I := H.out.2.2.2.2.2 A m B L u hlv hcm hdl hll (by omega) (by omega) (by rw [← HN.out]; exact hBn) S0 (by rw [show B = m + bs by omega]; exact S1)
              rw [← HN.out] at I
              unfold SymRes fvE at I
              have fin : ∀ L', Re L L' A B → Sd (ltOf ecmp) L' A B → Re l L' 0 n ∧ (∀ s, s < t + 1 → Bl (ltOf ecmp) L' b2 n s) ∧ (∀ s, 2 * (t + 1) ≤ s → Bl (ltOf ecmp) L' bs n s) := fun L' r1 r2 => by
                refine ⟨hre.trans (r1.mono (Nat.zero_le _) hBn), fun s hs => ?_, fun s hs => ?_⟩
                · rcases Nat.lt_or_ge s t with q | q
                  · exact old r1 s q
                  · obtain rfl : s = t := by omega
                    unfold Bl
                    rw [← hA, ← hB, Nat.min_eq_left hBn]
                    exact r2
                · have := hbl2 s (by omega)
                  have q := mul_lt_of (s := 2 * t + 1) (t := s) (bs := bs) (by omega)
                  unfold Bl at this ⊢
                  exact this.out r1 (.inr (by omega))
              have HF := Lib.hid (And.intro fin (And.intro hgr (And.intro hA (And.intro hB d2))))
              have hgas4 : n - B < n - A := by omega
              have hBb : B < 1000000 := by omega
              have hAb : A < 1000000 := by omega
              have hmb : m < 1000000 := by omega
              have hb2b : b2 < 1000000 := by omega
              clear hbl hbl2 hre hgr hlv hcm hdl old fin d0 d1 d2 S0 S1 hA hB hm hll
              go_wp2_with fail
              refine I.mono ?_
              rintro e w9 ⟨rfl, L', hl9, hr1, hs1, hg9⟩
              have HR := Lib.hid (And.intro hl9 (And.intro (HF.out.1 L' hr1 hs1) (HF.out.2.1.trans hg9)))
              clear I hl9 hg9 hr1 hs1
              go_wp2_with fail
              go_roundg (n - B)
              case measure => omega
              case rel =>
                have q := HF.out.2.2
                exact ⟨t + 1, L', by omega, by omega, (by congr 1; omega), (by first | (congr 1; omega) | (simp; omega)), HR.out.1, HR.out.2.1.1, HR.out.2.1.2.1, HR.out.2.1.2.2, HR.out.2.2⟩
            · by_cases hmn : m < n
              · rw [Nat.min_eq_left (by omega)] at S0
                rw [Nat.min_eq_right (by omega)] at S1
                have I := H.out.2.2.2.2.2 A m n L u hlv hcm hdl hll (by omega) hmn (by rw [← HN.out]; exact Nat.le_refl _) S0 S1
                rw [← HN.out] at I
                unfold SymRes fvE at I
                have fin : ∀ L', Re L L' A n → Sd (ltOf ecmp) L' A n → Re l L' 0 n ∧ (∀ s, Bl (ltOf ecmp) L' b2 n s) := fun L' r1 r2 => by
                  refine ⟨hre.trans (r1.mono (Nat.zero_le _) (Nat.le_refl _)), fun s => ?_⟩
                  rcases Nat.lt_trichotomy s t with q | q | q
                  · exact old r1 s q
                  · subst q
                    unfold Bl
                    rw [← hA, ← hB, Nat.min_eq_right (by omega)]
                    exact r2
                  · have := mul_lt_of (bs := b2) q
                    exact bl_none (by omega)
                have HF := Lib.hid (And.intro fin (And.intro hgr trivial))
                have hAb : A < 1000000 := by omega
                have hBb : B < 1000000 := by omega
                have hBB : decide ((B : Int) ≤ (n : Int)) = false := decide_eq_false (by omega)
                clear hbl hbl2 hre hgr hlv hcm hdl old fin d0 d1 d2 S0 S1 hA hB hm hll
                go_wp2_with fail
                refine I.mono ?_
                rintro e w9 ⟨rfl, L', hl9, hr1, hs1, hg9⟩
                have HR := Lib.hid (And.intro hl9 (And.intro (HF.out.1 L' hr1 hs1) (HF.out.2.1.trans hg9)))
                clear I hl9 hg9 hr1 hs1
                go_wp2_with fail
                go_roundg (n - b2)
                case measure => omega
                case rel => exact ⟨b2, L', by omega, by omega, Nat.le_refl _, (by first | rfl | simp [e2]), HR.out.1, HR.out.2.1.1, HR.out.2.1.2, HR.out.2.2⟩
              · rw [Nat.min_eq_right (by omega)] at S0
                have fin : Re l L 0 n ∧ (∀ s, Bl (ltOf ecmp) L b2 n s) := by
                  refine ⟨hre, fun s => ?_⟩
                  rcases Nat.lt_trichotomy s t with q | q | q
                  · exact hbl s q
                  · subst q
                    unfold Bl
                    rw [← hA, ← hB, Nat.min_eq_right (by omega)]
                    exact S0
                  · have := mul_lt_of (bs := b2) q
                    exact bl_none (by omega)
                have HR := Lib.hid (And.intro hlv (And.intro fin hgr))
                have hAb : A < 1000000 := by omega
                have hBb : B < 1000000 := by omega
                have hBB : decide ((B : Int) ≤ (n : Int)) = false := decide_eq_false (by omega)
                clear hbl hbl2 hre hgr hlv hcm hdl old fin d0 d1 d2 S0 S1 hA hB hm hll
                go_wp2_with fail
                go_roundg (n - b2)
                case measure => omega
                case rel => exact ⟨b2, L, by omega, by omega, Nat.le_refl _, (by first | rfl | simp [e2]), HR.out.1, HR.out.2.1.1, HR.out.2.1.2, HR.out.2.2⟩
        · have hs : Sd (ltOf ecmp) L 0 n := by
            have := HB.out.2.2.1 0
            unfold Bl at this
            rw [Nat.zero_mul, Nat.min_eq_right (by omega)] at this
            exact this
          have HS := Lib.hid hs
          clear hs
          go_wp2_with fail
          go_end0
          exact ⟨rfl, L, HB.out.1, HB.out.2.1, HS.out, HB.out.2.2.2⟩
set_option maxRecDepth 100000 in
set_option maxHeartbeats 4000000 in
theorem stable_any {D : Pt → Prop} (hO : OrdOn D (ltOf ecmp)) (b7 g off c : Nat) (l : List (Int × Int)) (w : World) (hL : Live encV 2 w g off l) (hC : CmpAt w b7 g) (hD : ∀ x ∈ l, D x) (hn : l.length ≤ 100000) :
    Calls Tryz.prog 62 #[.slice (some ⟨g, off, none⟩) l.length c, fvE b7] w (SymRes w g off l 0 l.length) := by
  have I := stableC_any hO b7 g off c l w hL hC hD hn
  unfold SymRes fvE at *
  go_enter Tryz.func62, Tryz.ntmps62
  go_wp2_with fail
  refine I.mono ?_
  rintro e w' ⟨rfl, l', hl, hr, hs, hg⟩
  have HR := Lib.hid (And.intro hl (And.intro hr (And.intro hs hg)))
  clear hl hr hs hg I
  go_wp2_with fail
  go_end0
  exact ⟨rfl, l', HR.out.1, HR.out.2.1, HR.out.2.2.1, HR.out.2.2.2⟩
end Go.Proofs.YtpbgimdbhgahkaaGreat
