/- Layer 15: swapRange and rotate of the standard library's stable sort, at rows of vectors. -/
import Derived.Test.YtbienlhofkfdpaaMinkS1
import Derived.Test.YtbienlhofkfdpaaMink10
import Derived.BigRegion
import Derived.Outline
namespace Go.Proofs.Ytbienlhofkfdpaa
open Go.RowKit Go.Sort
set_option linter.unusedVariables false
set_option linter.unusedSimpArgs false
attribute [local go_sem ↓] Go.wp_at_zero Go.wp_at_succ

theorem at0_eq' {l : List Pt} {i : Nat} (h : i < l.length) : l[i] = at0 l i := (at0_eq h).symm
/-- What a swap in a row leaves. -/
theorem Live.swap2 {w : World} {g off : Nat} {l : List (Int × Int)} (h : Live encV 2 w g off l) {x y : Nat} (hx : x < l.length) (hy : y < l.length) {px py qx qy : Int} (ep : at0 l x = (px, py)) (eq : at0 l y = (qx, qy)) :
    Live encV 2 ((((w.setCell ⟨g, off + x * 2, none⟩ (.int .i64 qx)).setCell ⟨g, off + x * 2 + 1, none⟩ (.int .i64 qy)).setCell ⟨g, off + y * 2, none⟩ (.int .i64 px)).setCell ⟨g, off + y * 2 + 1, none⟩ (.int .i64 py)) g off (swp2 l x y) := by
  have := (h.set x hx qx qy).set y (by simpa using hy) px py
  unfold swp2
  rw [ep, eq]
  exact this
theorem swap2_grown (w : World) (g a b c d : Nat) (p q r s : Value) : w.grownBy ((((w.setCell ⟨g, a, none⟩ p).setCell ⟨g, b, none⟩ q).setCell ⟨g, c, none⟩ r).setCell ⟨g, d, none⟩ s) (some g) :=
  (((grownBy_setCell (p := ⟨g, a, none⟩) rfl p).trans (grownBy_setCell (p := ⟨g, b, none⟩) rfl q)).trans (grownBy_setCell (p := ⟨g, c, none⟩) rfl r)).trans (grownBy_setCell (p := ⟨g, d, none⟩) rfl s)
theorem grownBy_drew (w : World) (row : Option Nat) : w.grownBy w.drew row := ⟨rfl, rfl, rfl, Nat.le_refl _, fun _ _ _ => rfl⟩
theorem Live.drew {w : World} {g off : Nat} {l : List (Int × Int)} (h : Live encV 2 w g off l) : Live encV 2 w.drew g off l := h.of ((SinceOf.refl _).drew)

set_option maxRecDepth 100000 in
set_option maxHeartbeats 4000000 in
theorem swapRange_any (g off c a b n : Nat) (l : List (Int × Int)) (w : World) (fv : Value) (hL : Live encV 2 w g off l) (hn : l.length ≤ 100000) (h1 : a + n ≤ b) (h2 : b + n ≤ l.length) :
    Calls Try.prog 131 #[.slice (some ⟨g, off, none⟩) l.length c, .int .i64 a, .int .i64 b, .int .i64 n, fv] w fun e w' => e = .returned (.tuple #[]) ∧ Live encV 2 w' g off (swapF l a b n) ∧ w.grownBy w' (some g) := by
  have HL := Lib.hid hL
  clear hL
  go_enter Try.func131, Try.ntmps131
  go_wp2_with fail
  go_loopg [10] n (fun gas s10 wr => ∃ i : Nat, i ≤ n ∧ n - i ≤ gas ∧ s10 = .int .i64 i ∧ Live encV 2 wr g off (swapF l a b i) ∧ w.grownBy wr (some g))
  case atStart => exact ⟨0, by omega, by omega, by go_num, HL.out, World.grownBy.refl _ _⟩
  case round =>
    obtain ⟨i, hi, hgas, rfl, hlv, hgr⟩ := hrel
    obtain ⟨u, rfl⟩ : ∃ u, u = wr := ⟨_, rfl⟩
    by_cases hlt : i < n
    · obtain ⟨L, hLd⟩ : ∃ L, L = swapF l a b i := ⟨_, rfl⟩
      have hll : L.length = l.length := by rw [hLd]; exact swapF_len l a b i
      have hsw : swapF l a b (i + 1) = swp2 L (a + i) (b + i) := by rw [hLd]; rfl
      rw [← hLd] at hlv
      have hxl : a + i < L.length := by omega
      have hyl : b + i < L.length := by omega
      obtain ⟨x, hx⟩ : ∃ x, x = a + i := ⟨_, rfl⟩
      obtain ⟨y, hy⟩ : ∃ y, y = b + i := ⟨_, rfl⟩
      rw [← hx] at hxl hsw
      rw [← hy] at hyl hsw
      have ex : (a : Int) + (i : Int) = (x : Int) := by omega
      have ey : (b : Int) + (i : Int) = (y : Int) := by omega
      have wx : IntKind.i64.wrap (x : Int) = (x : Int) := IntWalk.i64_in _ (by omega)
      have wy : IntKind.i64.wrap (y : Int) = (y : Int) := IntWalk.i64_in _ (by omega)
      have hxy : x < y := by omega
      have x0 := hlv.row.v0 x hxl
      have x1 := hlv.row.v1 x hxl
      have y0 := hlv.row.v0 y hyl
      have y1 := hlv.row.v1 y hyl
      rw [at0_eq' hxl] at x0 x1
      rw [at0_eq' hyl] at y0 y1
      have fx0 := hlv.free (x * 2) (by omega)
      have fx1 := hlv.free (x * 2 + 1) (by omega)
      have fy0 := hlv.free (y * 2) (by omega)
      have fy1 := hlv.free (y * 2 + 1) (by omega)
      rw [← Nat.add_assoc] at fx1 fy1
      have hO := hlv.row.there
      have hxl' : x < l.length := by omega
      have hyl' : y < l.length := by omega
      obtain ⟨⟨px, py⟩, hp⟩ : ∃ p, p = at0 L x := ⟨_, rfl⟩
      obtain ⟨⟨qx, qy⟩, hq⟩ : ∃ q, q = at0 L y := ⟨_, rfl⟩
      rw [← hp] at x0 x1
      rw [← hq] at y0 y1
      simp only at x0 x1 y0 y1
      have HS := Lib.hid (And.intro (hlv.swap2 hxl hyl hp.symm hq.symm) (And.intro hsw hgr))
      clear hlv hsw hgr hp hq hx hy hLd h1 h2
      go_upto_region 3 with fail
      go_big_region
      all_goals go_wp2_with fail
      all_goals go_roundg (n - (i + 1))
      case measure => omega
      case rel => exact ⟨i + 1, hlt, Nat.le_refl _, by go_num, by rw [HS.out.2.1]; exact HS.out.1.drew, (HS.out.2.2.trans (swap2_grown _ _ _ _ _ _ _ _ _ _)).trans (grownBy_drew _ _)⟩
    · obtain rfl : i = n := by omega
      have HR := Lib.hid (And.intro hlv hgr)
      clear hlv hgr
      go_wp2_with fail
      go_end0
      exact ⟨rfl, HR.out.1, HR.out.2⟩
set_option maxRecDepth 100000 in
set_option maxHeartbeats 4000000 in
theorem rotate_any (g off c a m b : Nat) (l : List (Int × Int)) (w : World) (fv : Value) (hL : Live encV 2 w g off l) (hn : l.length ≤ 100000) (h1 : a < m) (h2 : m < b) (h3 : b ≤ l.length) :
    Calls Try.prog 120 #[.slice (some ⟨g, off, none⟩) l.length c, .int .i64 a, .int .i64 m, .int .i64 b, fv] w fun e w' => e = .returned (.tuple #[]) ∧ ∃ l', Live encV 2 w' g off l' ∧ Rot l l' a m b ∧ Re l l' a b ∧ w.grownBy w' (some g) := by
  have HL := Lib.hid hL
  clear hL
  go_enter Try.func120, Try.ntmps120
  go_wp2_with fail
  go_loopg [10, 11] (b - a) (fun gas s10 s11 wr => ∃ (i j : Nat) (L : List Pt), 0 < i ∧ 0 < j ∧ i ≤ m - a ∧ j ≤ b - m ∧ i + j ≤ gas ∧ s10 = .int .i64 i ∧ s11 = .int .i64 j ∧ Live encV 2 wr g off L ∧ Re l L a b ∧ (∀ T, Rot L T (m - i) m (m + j) → Rot l T a m b) ∧ w.grownBy wr (some g))
  case atStart => exact ⟨m - a, b - m, l, by omega, by omega, Nat.le_refl _, Nat.le_refl _, by omega, (by congr 1; omega), (by congr 1; omega), HL.out, Re.refl _ _ _, fun T hT => (by rw [show m - (m - a) = a by omega, show m + (b - m) = b by omega] at hT; exact hT), World.grownBy.refl _ _⟩
  case round =>
    obtain ⟨i, j, L, hi0, hj0, hi, hj, hgas, rfl, rfl, hlv, hre, hrot, hgr⟩ := hrel
    obtain ⟨u, rfl⟩ : ∃ u, u = wr := ⟨_, rfl⟩
    have hll := hre.len
    have hw := hgr
    obtain ⟨x, hx⟩ : ∃ x, x = m - i := ⟨_, rfl⟩
    have ex : (m : Int) - (i : Int) = (x : Int) := by omega
    by_cases hlt : j < i
    · have SW := swapRange_any g off c (m - i) m j L u fv hlv (by omega) (by omega) (by omega)
      rw [hll, ← hx] at SW
      have hrot' : ∀ T, Rot (swapF L (m - i) m j) T (m - (i - j)) m (m + j) → Rot l T a m b := fun T hT => hrot T (Rot.left (by omega) hlt (by omega) hT)
      have hre' : Re l (swapF L (m - i) m j) a b := hre.trans (swapF_re (by omega) (by omega) (by omega) (by omega))
      rw [← hx] at hrot' hre'
      have g1 : ((i : Int) != (j : Int)) = true := by simp; omega
      have g2 : ((i : Int) == (j : Int)) = false := by simp; omega
      have g3 : decide ((j : Int) < (i : Int)) = true := decide_eq_true (by omega)
      have HS := Lib.hid (And.intro hrot' (And.intro hre' hgr))
      clear hrot hre hgr hrot' hre' hlv hx
      go_wp2_with fail
      refine SW.mono ?_
      rintro e w' ⟨rfl, hl', hg'⟩
      have HC := Lib.hid (And.intro hl' hg')
      clear hl' hg' SW
      go_wp2_with fail
      go_roundg (i - j + j)
      case measure => omega
      case rel => exact ⟨i - j, j, _, by omega, hj0, by omega, hj, Nat.le_refl _, (by congr 1; omega), rfl, HC.out.1, HS.out.2.1, HS.out.1, HS.out.2.2.trans HC.out.2⟩
    · by_cases hgt : i < j
      · obtain ⟨y, hy⟩ : ∃ y, y = m + j - i := ⟨_, rfl⟩
        have ey : (m : Int) + (j : Int) - (i : Int) = (y : Int) := by omega
        have SW := swapRange_any g off c (m - i) (m + j - i) i L u fv hlv (by omega) (by omega) (by omega)
        rw [hll, ← hx, ← hy] at SW
        have hrot' : ∀ T, Rot (swapF L (m - i) (m + j - i) i) T (m - i) m (m + (j - i)) → Rot l T a m b := fun T hT => hrot T (Rot.right (by omega) hgt (by omega) hT)
        have hre' : Re l (swapF L (m - i) (m + j - i) i) a b := hre.trans (swapF_re (by omega) (by omega) (by omega) (by omega))
        rw [← hx, ← hy] at hrot' hre'
        have hrot2 : ∀ T, Rot (swapF L x y i) T (m - i) m (m + (j - i)) → Rot l T a m b := fun T hT => hrot' T (by rw [hx]; rw [hx] at hT; exact hT)
        have g1 : ((i : Int) != (j : Int)) = true := by simp; omega
        have g2 : ((i : Int) == (j : Int)) = false := by simp; omega
        have g3 : decide ((j : Int) < (i : Int)) = false := decide_eq_false (by omega)
        have HS := Lib.hid (And.intro hrot2 (And.intro hre' hgr))
        clear hrot hre hgr hrot' hrot2 hre' hlv hx hy
        go_wp2_with fail
        refine SW.mono ?_
        rintro e w' ⟨rfl, hl', hg'⟩
        have HC := Lib.hid (And.intro hl' hg')
        clear hl' hg' SW
        go_wp2_with fail
        go_roundg (i + (j - i))
        case measure => omega
        case rel => exact ⟨i, j - i, _, hi0, by omega, hi, by omega, Nat.le_refl _, rfl, (by congr 1; omega), HC.out.1, HS.out.2.1, HS.out.1, HS.out.2.2.trans HC.out.2⟩
      · obtain rfl : i = j := by omega
        have SW := swapRange_any g off c (m - i) m i L u fv hlv (by omega) (by omega) (by omega)
        rw [hll, ← hx] at SW
        have hrot' : Rot l (swapF L (m - i) m i) a m b := hrot _ (Rot.same (by omega) (by omega))
        have hre' : Re l (swapF L (m - i) m i) a b := hre.trans (swapF_re (by omega) (by omega) (by omega) (by omega))
        rw [← hx] at hrot' hre'
        have g1 : ((i : Int) != (i : Int)) = false := by simp
        have HS := Lib.hid (And.intro hrot' (And.intro hre' hgr))
        clear hrot hre hgr hrot' hre' hlv hx
        go_wp2_with fail
        refine SW.mono ?_
        rintro e w' ⟨rfl, hl', hg'⟩
        have HC := Lib.hid (And.intro hl' hg')
        clear hl' hg' SW
        go_wp2_with fail
        go_end0
        exact ⟨rfl, _, HC.out.1, HS.out.1, HS.out.2.1, HS.out.2.2.trans HC.out.2⟩
end Go.Proofs.Ytbienlhofkfdpaa
/- Layer 15: symMerge of the standard library's stable sort, at rows of vectors. -/
namespace Go.Proofs.Ytbienlhofkfdpaa
open Go.RowKit Go.Sort
set_option linter.unusedVariables false
set_option linter.unusedSimpArgs false
attribute [local go_sem ↓] Go.wp_at_zero Go.wp_at_succ

/-- The comparison's captured function, in a block that is not the row's. -/
structure CmpAt (w : World) (b7 g : Nat) : Prop where
  cell : w.cell? ⟨b7, 0, none⟩ = some (.func (.func 56) #[] #[])
  lt : b7 < w.heap.size
  ne : b7 ≠ g
theorem CmpAt.kept {w w' : World} {b7 g : Nat} (h : CmpAt w b7 g) (hg : w.grownBy w' (some g)) : CmpAt w' b7 g :=
  ⟨by rw [World.grownBy.cell_far hg _ h.lt (by simpa using h.ne)]; exact h.cell, Nat.lt_of_lt_of_le h.lt hg.size, h.ne⟩
theorem CmpAt.of {w w' : World} {b7 g : Nat} (h : CmpAt w b7 g) (hs : SinceOf w w') : CmpAt w' b7 g := by
  obtain ⟨x, rfl⟩ := hs
  exact ⟨by rw [x.below.cell h.lt]; exact h.cell, Nat.lt_of_lt_of_le h.lt x.size, h.ne⟩
theorem CmpAt.calls {w : World} {b7 g : Nat} (h : CmpAt w b7 g) (p q : Pt) : Gives Try.prog 59 #[vv p.1 p.2, vv q.1 q.2, .pointer (some ⟨b7, 0, none⟩)] w (.int .i64 (ecmp p q)) := ecmp_any b7 p.1 p.2 q.1 q.2 w h.cell ⟨⟨h.lt⟩⟩
theorem ltOf_ecmp (p q : Pt) : ltOf ecmp p q = decide (ecmp p q < 0) := rfl
theorem SinceOf.grown_any {w w' : World} (h : SinceOf w w') (row : Option Nat) : w.grownBy w' row := by
  obtain ⟨x, rfl⟩ := h
  exact x.grownBy row

set_option maxRecDepth 100000 in
set_option maxHeartbeats 8000000 in
theorem symOne_any {D : Pt → Prop} (hO : OrdOn D (ltOf ecmp)) (b7 g off c a b : Nat) (l : List (Int × Int)) (w : World) (hL : Live encV 2 w g off l) (hC : CmpAt w b7 g) (hD : ∀ x ∈ l, D x) (hn : l.length ≤ 100000) (h2 : a + 1 < b) (h3 : b ≤ l.length) (hs : Sd (ltOf ecmp) l (a + 1) b) :
    Calls Try.prog 115 #[.slice (some ⟨g, off, none⟩) l.length c, .int .i64 a, .int .i64 ((a + 1 : Nat) : Int), .int .i64 b, .func (.func 59) #[] #[.pointer (some ⟨b7, 0, none⟩)]] w fun e w' => e = .returned (.tuple #[]) ∧ ∃ l', Live encV 2 w' g off l' ∧ Re l l' a b ∧ Sd (ltOf ecmp) l' a b ∧ w.grownBy w' (some g) := by
  have H := Lib.hid (And.intro hL (And.intro hC (And.intro hO (And.intro hD hs))))
  clear hL hC hD hs hO
  obtain ⟨m, hm⟩ : ∃ m, m = a + 1 := ⟨_, rfl⟩
  rw [← hm]
  have e1 : (m : Int) - (a : Int) = 1 := by omega
  have HM := Lib.hid hm
  have ham : a < m := by omega
  have hmb : m < b := by omega
  clear hm
  go_enter Try.func115, Try.ntmps115
  go_wp2_with fail
  go_loopg [10, 11] b (fun gas s10 s11 wr => ∃ i j : Nat, m ≤ i ∧ i ≤ j ∧ j ≤ b ∧ j - i ≤ gas ∧ s10 = .int .i64 i ∧ s11 = .int .i64 j ∧ SinceOf w wr ∧ (∀ t, m ≤ t → t < i → ltOf ecmp (at0 l t) (at0 l a) = true) ∧ (∀ t, j ≤ t → t < b → ltOf ecmp (at0 l t) (at0 l a) = false))
  case atStart => exact ⟨m, b, Nat.le_refl _, by omega, Nat.le_refl _, by omega, rfl, rfl, by (repeat (first | (with_reducible exact SinceOf.refl _) | (with_reducible assumption) | (with_reducible refine SinceOf.alloc ?_ _) | (with_reducible refine SinceOf.drew ?_) | (with_reducible refine SinceOf.drewN ?_ _) | (with_reducible refine SinceOf.later ?_ _) | (with_reducible refine SinceOf.further ?_ _) | (with_reducible refine SinceOf.setCell ?_ (by first | exact Nat.le_refl _ | (simp; done) | omega | (simp; omega)) _))), fun t h1 h2 => absurd h1 (by omega), fun t h1 h2 => absurd h1 (by omega)⟩
  case round =>
    obtain ⟨i, j, hmi, hij, hjb, hgas, rfl, rfl, ⟨z, rfl⟩, hlo, hhi⟩ := hrel
    by_cases hlt : i < j
    · obtain ⟨h, hh⟩ : ∃ h, h = (i + j) / 2 := ⟨_, rfl⟩
      have q1 : i ≤ h := by omega
      have q2 : h < j := by omega
      have e2 : ((i : Int) + (j : Int)) / 2 = (h : Int) := by omega
      have hlv := H.out.1.of (w' := z.wd) (by (repeat (first | (with_reducible exact SinceOf.refl _) | (with_reducible assumption) | (with_reducible refine SinceOf.alloc ?_ _) | (with_reducible refine SinceOf.drew ?_) | (with_reducible refine SinceOf.drewN ?_ _) | (with_reducible refine SinceOf.later ?_ _) | (with_reducible refine SinceOf.further ?_ _) | (with_reducible refine SinceOf.setCell ?_ (by first | exact Nat.le_refl _ | (simp; done) | omega | (simp; omega)) _))))
      have hO := hlv.row.there
      have x0 := hlv.row.v0 h (by omega)
      have x1 := hlv.row.v1 h (by omega)
      have y0 := hlv.row.v0 a (by omega)
      have y1 := hlv.row.v1 a (by omega)
      rw [at0_eq' (by omega)] at x0 x1 y0 y1
      have hhl : h < l.length := by omega
      have hal : a < l.length := by omega
      have C := fun W (hW : SinceOf z.wd W) => (H.out.2.1.of (SinceOf.trans ⟨z, rfl⟩ hW)).calls (at0 l h) (at0 l a)
      have K : ltOf ecmp (at0 l h) (at0 l a) = decide (ecmp (at0 l h) (at0 l a) < 0) := rfl
      have mono1 : ltOf ecmp (at0 l h) (at0 l a) = true → ∀ t, m ≤ t → t < h + 1 → ltOf ecmp (at0 l t) (at0 l a) = true := fun e t t1 t2 => by
        rcases Nat.lt_or_ge t h with c | c
        · exact H.out.2.2.1.trans' (at0_D H.out.2.2.2.1 (by omega)) (at0_D H.out.2.2.2.1 (by omega)) (at0_D H.out.2.2.2.1 (by omega)) (H.out.2.2.2.2 t h (by have := HM.out; omega) c (by omega)) e
        · obtain rfl : t = h := by omega
          exact e
      have mono2 : ltOf ecmp (at0 l h) (at0 l a) = false → ∀ t, h ≤ t → t < b → ltOf ecmp (at0 l t) (at0 l a) = false := fun e t t1 t2 => by
        rcases Nat.lt_or_eq_of_le t1 with c | rfl
        · exact H.out.2.2.1.ntrans _ _ _ (at0_D H.out.2.2.2.1 (by omega)) (at0_D H.out.2.2.2.1 (by omega)) (at0_D H.out.2.2.2.1 (by omega)) e (H.out.2.2.2.2 h t (by have := HM.out; omega) c t2)
        · exact e
      rw [K] at mono1 mono2
      have HL := Lib.hid (And.intro hlo (And.intro hhi (And.intro mono1 mono2)))
      clear hlo hhi mono1 mono2 K hlv hh
      obtain ⟨⟨px, py⟩, hp⟩ : ∃ p, p = at0 l h := ⟨_, rfl⟩
      obtain ⟨⟨qx, qy⟩, hq⟩ : ∃ q, q = at0 l a := ⟨_, rfl⟩
      obtain ⟨v, hv⟩ : ∃ v, v = ecmp (at0 l h) (at0 l a) := ⟨_, rfl⟩
      rw [← hv] at C HL
      rw [← hp, ← hq] at C
      rw [← hp] at x0 x1
      rw [← hq] at y0 y1
      simp only at x0 x1 y0 y1 C
      clear hp hq hv
      obtain ⟨bv, hbv⟩ : ∃ bv, bv = decide (v < 0) := ⟨_, rfl⟩
      have gv : decide (v < 0) = bv := hbv.symm
      rw [gv] at HL
      clear hbv
      go_upto_region 5 with fail
      go_cut [50] (fun s50 wx => s50 = .bool bv ∧ SinceOf z.wd wx)
      case first =>
        go_region_held3 (fun w' => w'.cell? ⟨g, off + h * 2, none⟩ = some (.int .i64 px) ∧ w'.cell? ⟨g, off + h * 2 + 1, none⟩ = some (.int .i64 py) ∧ w'.cell? ⟨g, off + a * 2, none⟩ = some (.int .i64 qx) ∧ w'.cell? ⟨g, off + a * 2 + 1, none⟩ = some (.int .i64 qy)) ((simp [go_sem, *]))
          ((go_at_call 59; (with_reducible refine (C _ (by (repeat (first | (with_reducible exact SinceOf.refl _) | (with_reducible assumption) | (with_reducible refine SinceOf.alloc ?_ _) | (with_reducible refine SinceOf.drew ?_) | (with_reducible refine SinceOf.drewN ?_ _) | (with_reducible refine SinceOf.later ?_ _) | (with_reducible refine SinceOf.further ?_ _) | (with_reducible refine SinceOf.setCell ?_ (by first | exact Nat.le_refl _ | (simp; done) | omega | (simp; omega)) _))))).calls.mono ?_); rintro e _ ⟨rfl, y1, rfl⟩))
        all_goals
          go_wp2_with fail
          go_meet
          exact ⟨by simp [gv], by (repeat (first | (with_reducible exact SinceOf.refl _) | (with_reducible assumption) | (with_reducible refine SinceOf.alloc ?_ _) | (with_reducible refine SinceOf.drew ?_) | (with_reducible refine SinceOf.drewN ?_ _) | (with_reducible refine SinceOf.later ?_ _) | (with_reducible refine SinceOf.further ?_ _) | (with_reducible refine SinceOf.setCell ?_ (by first | exact Nat.le_refl _ | (simp; done) | omega | (simp; omega)) _)))⟩
      case rest =>
        obtain ⟨rfl, ⟨z2, rfl⟩⟩ := hcut
        clear C x0 x1 y0 y1
        cases bv
        · go_wp2_with fail
          go_roundg (h - i)
          case measure => omega
          case rel => exact ⟨i, h, hmi, q1, by omega, Nat.le_refl _, rfl, rfl, by (repeat (first | (with_reducible exact SinceOf.refl _) | (with_reducible assumption) | (with_reducible refine SinceOf.alloc ?_ _) | (with_reducible refine SinceOf.drew ?_) | (with_reducible refine SinceOf.drewN ?_ _) | (with_reducible refine SinceOf.later ?_ _) | (with_reducible refine SinceOf.further ?_ _) | (with_reducible refine SinceOf.setCell ?_ (by first | exact Nat.le_refl _ | (simp; done) | omega | (simp; omega)) _))), HL.out.1, HL.out.2.2.2 (by first | rfl | trivial)⟩
        · go_wp2_with fail
          go_roundg (j - (h + 1))
          case measure => omega
          case rel => exact ⟨h + 1, j, by omega, by omega, hjb, Nat.le_refl _, by go_num, rfl, by (repeat (first | (with_reducible exact SinceOf.refl _) | (with_reducible assumption) | (with_reducible refine SinceOf.alloc ?_ _) | (with_reducible refine SinceOf.drew ?_) | (with_reducible refine SinceOf.drewN ?_ _) | (with_reducible refine SinceOf.later ?_ _) | (with_reducible refine SinceOf.further ?_ _) | (with_reducible refine SinceOf.setCell ?_ (by first | exact Nat.le_refl _ | (simp; done) | omega | (simp; omega)) _))), HL.out.2.2.1 (by first | rfl | trivial), HL.out.2.1⟩
    · obtain rfl : i = j := by omega
      have HL := Lib.hid (And.intro hlo hhi)
      clear hlo hhi
      obtain ⟨k1, hk1⟩ : ∃ k1, k1 = i - 1 := ⟨_, rfl⟩
      have e3 : (i : Int) - 1 = (k1 : Int) := by omega
      have hak : a ≤ k1 := by omega
      have hkb : k1 + 1 = i := by omega
      clear hk1
      go_wp2_with fail
      go_loopg [13] (k1 - a) (fun gas s13 wr => ∃ k : Nat, a ≤ k ∧ k ≤ k1 ∧ k1 - k ≤ gas ∧ s13 = .int .i64 k ∧ Live encV 2 wr g off (upF l a (k - a)) ∧ z.wd.grownBy wr (some g))
      case atStart => exact ⟨a, Nat.le_refl _, hak, Nat.le_refl _, rfl, (by rw [Nat.sub_self]; exact H.out.1.of (by (repeat (first | (with_reducible exact SinceOf.refl _) | (with_reducible assumption) | (with_reducible refine SinceOf.alloc ?_ _) | (with_reducible refine SinceOf.drew ?_) | (with_reducible refine SinceOf.drewN ?_ _) | (with_reducible refine SinceOf.later ?_ _) | (with_reducible refine SinceOf.further ?_ _) | (with_reducible refine SinceOf.setCell ?_ (by first | exact Nat.le_refl _ | (simp; done) | omega | (simp; omega)) _))))), World.grownBy.refl _ _⟩
      case round =>
        obtain ⟨x, hax, hxk, hgas, rfl, hlv, hgr⟩ := hrel
        obtain ⟨u, rfl⟩ : ∃ u, u = wr := ⟨_, rfl⟩
        by_cases hlt2 : x < k1
        · obtain ⟨L, hLd⟩ : ∃ L, L = upF l a (x - a) := ⟨_, rfl⟩
          have hll : L.length = l.length := by rw [hLd]; exact upF_len l a _
          have hsw : upF l a (x + 1 - a) = swp2 L x (x + 1) := by
            rw [show x + 1 - a = (x - a) + 1 by omega, upF, hLd, show a + (x - a) = x by omega]
          rw [← hLd] at hlv
          have hxl : x < L.length := by omega
          have hyl : x + 1 < L.length := by omega
          obtain ⟨y, hy⟩ : ∃ y, y = x + 1 := ⟨_, rfl⟩
          rw [← hy] at hyl hsw
          have ey : (x : Int) + 1 = (y : Int) := by omega
          have wy : IntKind.i64.wrap (y : Int) = (y : Int) := IntWalk.i64_in _ (by omega)
          have x0 := hlv.row.v0 x hxl
          have x1 := hlv.row.v1 x hxl
          have y0 := hlv.row.v0 y hyl
          have y1 := hlv.row.v1 y hyl
          rw [at0_eq' hxl] at x0 x1
          rw [at0_eq' hyl] at y0 y1
          have fx0 := hlv.free (x * 2) (by omega)
          have fx1 := hlv.free (x * 2 + 1) (by omega)
          have fy0 := hlv.free (y * 2) (by omega)
          have fy1 := hlv.free (y * 2 + 1) (by omega)
          rw [← Nat.add_assoc] at fx1 fy1
          have hO := hlv.row.there
          have hxl' : x < l.length := by omega
          have hyl' : y < l.length := by omega
          have hxy : x < y := by omega
          obtain ⟨⟨px, py⟩, hp⟩ : ∃ p, p = at0 L x := ⟨_, rfl⟩
          obtain ⟨⟨qx, qy⟩, hq⟩ : ∃ q, q = at0 L y := ⟨_, rfl⟩
          rw [← hp] at x0 x1
          rw [← hq] at y0 y1
          simp only at x0 x1 y0 y1
          have HS := Lib.hid (And.intro (hlv.swap2 hxl hyl hp.symm hq.symm) (And.intro hsw hgr))
          clear hlv hsw hgr hp hq hLd e1 e3 hy
          go_upto_region 11 with fail
          go_big_region
          all_goals go_wp2_with fail
          all_goals go_roundg (k1 - (x + 1))
          case measure => omega
          case rel => exact ⟨y, by omega, by omega, by omega, (by first | rfl | go_num), by rw [HS.out.2.1]; exact HS.out.1.drew, (HS.out.2.2.trans (swap2_grown _ _ _ _ _ _ _ _ _ _)).trans (grownBy_drew _ _)⟩
        · obtain rfl : x = k1 := by omega
          have HR := Lib.hid (And.intro hlv hgr)
          clear hlv hgr
          go_wp2_with fail
          go_returns
          refine ⟨rfl, _, HR.out.1, ?_, ?_, (SinceOf.grown_any ⟨z, rfl⟩ _).trans HR.out.2⟩
          · exact upF_re (Nat.le_refl _) (by omega) h3
          · have := sd_up H.out.2.2.1 H.out.2.2.2.1 h3 (by omega) H.out.2.2.2.2 (i := i) (by omega) hjb (fun t t1 t2 => HL.out.1 t (by have := HM.out; omega) t2) HL.out.2
            rw [show i - 1 - a = x - a by omega] at this
            exact this
set_option maxRecDepth 100000 in
set_option maxHeartbeats 8000000 in
theorem symLast_any {D : Pt → Prop} (hO : OrdOn D (ltOf ecmp)) (b7 g off c a m : Nat) (l : List (Int × Int)) (w : World) (hL : Live encV 2 w g off l) (hC : CmpAt w b7 g) (hD : ∀ x ∈ l, D x) (hn : l.length ≤ 100000) (h2 : a + 1 < m) (h3 : m + 1 ≤ l.length) (hs : Sd (ltOf ecmp) l a m) :
    Calls Try.prog 115 #[.slice (some ⟨g, off, none⟩) l.length c, .int .i64 a, .int .i64 m, .int .i64 ((m + 1 : Nat) : Int), .func (.func 59) #[] #[.pointer (some ⟨b7, 0, none⟩)]] w fun e w' => e = .returned (.tuple #[]) ∧ ∃ l', Live encV 2 w' g off l' ∧ Re l l' a (m + 1) ∧ Sd (ltOf ecmp) l' a (m + 1) ∧ w.grownBy w' (some g) := by
  have H := Lib.hid (And.intro hL (And.intro hC (And.intro hO (And.intro hD hs))))
  clear hL hC hD hs hO
  obtain ⟨b, hb⟩ : ∃ b, b = m + 1 := ⟨_, rfl⟩
  rw [← hb]
  have e1 : (b : Int) - (m : Int) = 1 := by omega
  obtain ⟨d, hd⟩ : ∃ d, d = m - a := ⟨_, rfl⟩
  have e0 : (m : Int) - (a : Int) = (d : Int) := by omega
  have g0 : ((d : Int) == 1) = false := by simp; omega
  have HM := Lib.hid hb
  have hml : m < l.length := by omega
  clear hb hd
  go_enter Try.func115, Try.ntmps115
  go_wp2_with fail
  go_loopg [14, 15] m (fun gas s14 s15 wr => ∃ i j : Nat, a ≤ i ∧ i ≤ j ∧ j ≤ m ∧ j - i ≤ gas ∧ s14 = .int .i64 i ∧ s15 = .int .i64 j ∧ SinceOf w wr ∧ (∀ t, a ≤ t → t < i → ltOf ecmp (at0 l m) (at0 l t) = false) ∧ (∀ t, j ≤ t → t < m → ltOf ecmp (at0 l m) (at0 l t) = true))
  case atStart => exact ⟨a, m, Nat.le_refl _, by omega, Nat.le_refl _, by omega, rfl, rfl, by (repeat (first | (with_reducible exact SinceOf.refl _) | (with_reducible assumption) | (with_reducible refine SinceOf.alloc ?_ _) | (with_reducible refine SinceOf.drew ?_) | (with_reducible refine SinceOf.drewN ?_ _) | (with_reducible refine SinceOf.later ?_ _) | (with_reducible refine SinceOf.further ?_ _) | (with_reducible refine SinceOf.setCell ?_ (by first | exact Nat.le_refl _ | (simp; done) | omega | (simp; omega)) _))), fun t h1 h2 => absurd h1 (by omega), fun t h1 h2 => absurd h1 (by omega)⟩
  case round =>
    obtain ⟨i, j, hmi, hij, hjb, hgas, rfl, rfl, ⟨z, rfl⟩, hlo, hhi⟩ := hrel
    by_cases hlt : i < j
    · obtain ⟨h, hh⟩ : ∃ h, h = (i + j) / 2 := ⟨_, rfl⟩
      have q1 : i ≤ h := by omega
      have q2 : h < j := by omega
      have e2 : ((i : Int) + (j : Int)) / 2 = (h : Int) := by omega
      have hlv := H.out.1.of (w' := z.wd) (by (repeat (first | (with_reducible exact SinceOf.refl _) | (with_reducible assumption) | (with_reducible refine SinceOf.alloc ?_ _) | (with_reducible refine SinceOf.drew ?_) | (with_reducible refine SinceOf.drewN ?_ _) | (with_reducible refine SinceOf.later ?_ _) | (with_reducible refine SinceOf.further ?_ _) | (with_reducible refine SinceOf.setCell ?_ (by first | exact Nat.le_refl _ | (simp; done) | omega | (simp; omega)) _))))
      have hO := hlv.row.there
      have x0 := hlv.row.v0 h (by omega)
      have x1 := hlv.row.v1 h (by omega)
      have y0 := hlv.row.v0 m (by omega)
      have y1 := hlv.row.v1 m (by omega)
      rw [at0_eq' (by omega)] at x0 x1 y0 y1
      have hhl : h < l.length := by omega
      have C := fun W (hW : SinceOf z.wd W) => (H.out.2.1.of (SinceOf.trans ⟨z, rfl⟩ hW)).calls (at0 l m) (at0 l h)
      have K : ltOf ecmp (at0 l m) (at0 l h) = decide (ecmp (at0 l m) (at0 l h) < 0) := rfl
      have mono1 : ltOf ecmp (at0 l m) (at0 l h) = false → ∀ t, a ≤ t → t < h + 1 → ltOf ecmp (at0 l m) (at0 l t) = false := fun e t t1 t2 => by
        rcases Nat.lt_or_ge t h with c | c
        · exact H.out.2.2.1.ntrans _ _ _ (at0_D H.out.2.2.2.1 (by omega)) (at0_D H.out.2.2.2.1 (by omega)) (at0_D H.out.2.2.2.1 (by omega)) (H.out.2.2.2.2 t h t1 c (by omega)) e
        · obtain rfl : t = h := by omega
          exact e
      have mono2 : ltOf ecmp (at0 l m) (at0 l h) = true → ∀ t, h ≤ t → t < m → ltOf ecmp (at0 l m) (at0 l t) = true := fun e t t1 t2 => by
        rcases Nat.lt_or_eq_of_le t1 with c | rfl
        · exact H.out.2.2.1.trans (at0_D H.out.2.2.2.1 (by omega)) (at0_D H.out.2.2.2.1 (by omega)) (at0_D H.out.2.2.2.1 (by omega)) e (H.out.2.2.2.2 h t (by omega) c t2)
        · exact e
      rw [K] at mono1 mono2
      have HL := Lib.hid (And.intro hlo (And.intro hhi (And.intro mono1 mono2)))
      clear hlo hhi mono1 mono2 K hlv hh
      obtain ⟨⟨px, py⟩, hp⟩ : ∃ p, p = at0 l h := ⟨_, rfl⟩
      obtain ⟨⟨qx, qy⟩, hq⟩ : ∃ q, q = at0 l m := ⟨_, rfl⟩
      obtain ⟨v, hv⟩ : ∃ v, v = ecmp (at0 l m) (at0 l h) := ⟨_, rfl⟩
      rw [← hv] at C HL
      rw [← hp, ← hq] at C
      rw [← hp] at x0 x1
      rw [← hq] at y0 y1
      simp only at x0 x1 y0 y1 C
      clear hp hq hv
      obtain ⟨bv, hbv⟩ : ∃ bv, bv = decide (v < 0) := ⟨_, rfl⟩
      have gv : decide (v < 0) = bv := hbv.symm
      rw [gv] at HL
      clear hbv
      go_upto_region 17 with fail
      go_cut [103] (fun s103 wx => s103 = .bool (!bv) ∧ SinceOf z.wd wx)
      case first =>
        go_region_held3 (fun w' => w'.cell? ⟨g, off + h * 2, none⟩ = some (.int .i64 px) ∧ w'.cell? ⟨g, off + h * 2 + 1, none⟩ = some (.int .i64 py) ∧ w'.cell? ⟨g, off + m * 2, none⟩ = some (.int .i64 qx) ∧ w'.cell? ⟨g, off + m * 2 + 1, none⟩ = some (.int .i64 qy)) ((simp [go_sem, *]))
          ((go_at_call 59; (with_reducible refine (C _ (by (repeat (first | (with_reducible exact SinceOf.refl _) | (with_reducible assumption) | (with_reducible refine SinceOf.alloc ?_ _) | (with_reducible refine SinceOf.drew ?_) | (with_reducible refine SinceOf.drewN ?_ _) | (with_reducible refine SinceOf.later ?_ _) | (with_reducible refine SinceOf.further ?_ _) | (with_reducible refine SinceOf.setCell ?_ (by first | exact Nat.le_refl _ | (simp; done) | omega | (simp; omega)) _))))).calls.mono ?_); rintro e _ ⟨rfl, y1, rfl⟩))
        all_goals
          go_wp2_with fail
          go_meet
          exact ⟨by simp [gv], by (repeat (first | (with_reducible exact SinceOf.refl _) | (with_reducible assumption) | (with_reducible refine SinceOf.alloc ?_ _) | (with_reducible refine SinceOf.drew ?_) | (with_reducible refine SinceOf.drewN ?_ _) | (with_reducible refine SinceOf.later ?_ _) | (with_reducible refine SinceOf.further ?_ _) | (with_reducible refine SinceOf.setCell ?_ (by first | exact Nat.le_refl _ | (simp; done) | omega | (simp; omega)) _)))⟩
      case rest =>
        obtain ⟨rfl, ⟨z2, rfl⟩⟩ := hcut
        clear C x0 x1 y0 y1
        cases bv
        · go_wp2_with fail
          go_roundg (j - (h + 1))
          case measure => omega
          case rel => exact ⟨h + 1, j, by omega, by omega, hjb, Nat.le_refl _, by go_num, rfl, by (repeat (first | (with_reducible exact SinceOf.refl _) | (with_reducible assumption) | (with_reducible refine SinceOf.alloc ?_ _) | (with_reducible refine SinceOf.drew ?_) | (with_reducible refine SinceOf.drewN ?_ _) | (with_reducible refine SinceOf.later ?_ _) | (with_reducible refine SinceOf.further ?_ _) | (with_reducible refine SinceOf.setCell ?_ (by first | exact Nat.le_refl _ | (simp; done) | omega | (simp; omega)) _))), HL.out.2.2.1 (by first | rfl | trivial), HL.out.2.1⟩
        · go_wp2_with fail
          go_roundg (h - i)
          case measure => omega
          case rel => exact ⟨i, h, hmi, q1, by omega, Nat.le_refl _, rfl, rfl, by (repeat (first | (with_reducible exact SinceOf.refl _) | (with_reducible assumption) | (with_reducible refine SinceOf.alloc ?_ _) | (with_reducible refine SinceOf.drew ?_) | (with_reducible refine SinceOf.drewN ?_ _) | (with_reducible refine SinceOf.later ?_ _) | (with_reducible refine SinceOf.further ?_ _) | (with_reducible refine SinceOf.setCell ?_ (by first | exact Nat.le_refl _ | (simp; done) | omega | (simp; omega)) _))), HL.out.1, HL.out.2.2.2 (by first | rfl | trivial)⟩
    · obtain rfl : i = j := by omega
      have HL := Lib.hid (And.intro hlo hhi)
      clear hlo hhi
      go_wp2_with fail
      go_loopg [17] (m - i) (fun gas s17 wr => ∃ k : Nat, i ≤ k ∧ k ≤ m ∧ k - i ≤ gas ∧ s17 = .int .i64 k ∧ Live encV 2 wr g off (dnF l m (m - k)) ∧ z.wd.grownBy wr (some g))
      case atStart => exact ⟨m, hjb, Nat.le_refl _, Nat.le_refl _, rfl, (by rw [Nat.sub_self]; exact H.out.1.of (by (repeat (first | (with_reducible exact SinceOf.refl _) | (with_reducible assumption) | (with_reducible refine SinceOf.alloc ?_ _) | (with_reducible refine SinceOf.drew ?_) | (with_reducible refine SinceOf.drewN ?_ _) | (with_reducible refine SinceOf.later ?_ _) | (with_reducible refine SinceOf.further ?_ _) | (with_reducible refine SinceOf.setCell ?_ (by first | exact Nat.le_refl _ | (simp; done) | omega | (simp; omega)) _))))), World.grownBy.refl _ _⟩
      case round =>
        obtain ⟨x, hax, hxk, hgas, rfl, hlv, hgr⟩ := hrel
        obtain ⟨u, rfl⟩ : ∃ u, u = wr := ⟨_, rfl⟩
        by_cases hlt2 : i < x
        · obtain ⟨L, hLd⟩ : ∃ L, L = dnF l m (m - x) := ⟨_, rfl⟩
          have hll : L.length = l.length := by rw [hLd]; exact dnF_len l m _
          obtain ⟨y, hy⟩ : ∃ y, y = x - 1 := ⟨_, rfl⟩
          have hsw : dnF l m (m - y) = swp2 L x y := by
            rw [show m - y = (m - x) + 1 by omega, dnF, hLd, show m - (m - x) = x by omega, hy]
          rw [← hLd] at hlv
          have hxl : x < L.length := by omega
          have hyl : y < L.length := by omega
          have ey : (x : Int) - 1 = (y : Int) := by omega
          have wy : IntKind.i64.wrap (y : Int) = (y : Int) := IntWalk.i64_in _ (by omega)
          have x0 := hlv.row.v0 x hxl
          have x1 := hlv.row.v1 x hxl
          have y0 := hlv.row.v0 y hyl
          have y1 := hlv.row.v1 y hyl
          rw [at0_eq' hxl] at x0 x1
          rw [at0_eq' hyl] at y0 y1
          have fx0 := hlv.free (x * 2) (by omega)
          have fx1 := hlv.free (x * 2 + 1) (by omega)
          have fy0 := hlv.free (y * 2) (by omega)
          have fy1 := hlv.free (y * 2 + 1) (by omega)
          rw [← Nat.add_assoc] at fx1 fy1
          have hO := hlv.row.there
          have hxl' : x < l.length := by omega
          have hyl' : y < l.length := by omega
          have hxy : y < x := by omega
          have hiy : i ≤ y := by omega
          obtain ⟨⟨px, py⟩, hp⟩ : ∃ p, p = at0 L x := ⟨_, rfl⟩
          obtain ⟨⟨qx, qy⟩, hq⟩ : ∃ q, q = at0 L y := ⟨_, rfl⟩
          rw [← hp] at x0 x1
          rw [← hq] at y0 y1
          simp only at x0 x1 y0 y1
          have HS := Lib.hid (And.intro (hlv.swap2 hxl hyl hp.symm hq.symm) (And.intro hsw hgr))
          clear hlv hsw hgr hp hq hLd e1 hy
          go_upto_region 23 with fail
          go_big_region
          all_goals go_wp2_with fail
          all_goals go_roundg (y - i)
          case measure => omega
          case rel => exact ⟨y, hiy, by omega, Nat.le_refl _, (by first | rfl | go_num), by rw [HS.out.2.1]; exact HS.out.1.drew, (HS.out.2.2.trans (swap2_grown _ _ _ _ _ _ _ _ _ _)).trans (grownBy_drew _ _)⟩
        · obtain rfl : x = i := by omega
          have HR := Lib.hid (And.intro hlv hgr)
          clear hlv hgr
          go_wp2_with fail
          go_returns
          refine ⟨rfl, _, HR.out.1, ?_, ?_, (SinceOf.grown_any ⟨z, rfl⟩ _).trans HR.out.2⟩
          · rw [HM.out]
            exact dnF_re (by omega) (by omega) (by omega) h3
          · rw [HM.out]
            exact sd_dn H.out.2.2.1 H.out.2.2.2.1 hml H.out.2.2.2.2 hmi hjb HL.out.1 HL.out.2
end Go.Proofs.Ytbienlhofkfdpaa
