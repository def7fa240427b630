/- Layer 15: swapRange and rotate of the standard library's stable sort, at rows of vectors. -/
import Derived.Test.YtbienlhofkfdpaaMinkS1
import Derived.Test.YtbienlhofkfdpaaMink10
import Derived.BigRegion
import Derived.Outline
namespace Go.Proofs.Ytbienlhofkfdpaa
open Go.RowKit Go.Sort
set_option linter.unusedVariables false
set_option linter.unusedSimpArgs false
attribute [local go_sem ↓] Go.wp_at_zero Go.wp_at_succ

theorem at0_eq' {l : List Pt} {i : Nat} (h : i < l.length) : l[i] = at0 l i := (at0_eq h).symm
/-- What a swap in a row leaves. -/
theorem Live.swap2 {w : World} {g off : Nat} {l : List (Int × Int)} (h : Live encV 2 w g off l) {x y : Nat} (hx : x < l.length) (hy : y < l.length) {px py qx qy : Int} (ep : at0 l x = (px, py)) (eq : at0 l y = (qx, qy)) :
    Live encV 2 ((((w.setCell ⟨g, off + x * 2, none⟩ (.int .i64 qx)).setCell ⟨g, off + x * 2 + 1, none⟩ (.int .i64 qy)).setCell ⟨g, off + y * 2, none⟩ (.int .i64 px)).setCell ⟨g, off + y * 2 + 1, none⟩ (.int .i64 py)) g off (swp2 l x y) := by
  have := (h.set x hx qx qy).set y (by simpa using hy) px py
  unfold swp2
  rw [ep, eq]
  exact this
theorem swap2_grown (w : World) (g a b c d : Nat) (p q r s : Value) : w.grownBy ((((w.setCell ⟨g, a, none⟩ p).setCell ⟨g, b, none⟩ q).setCell ⟨g, c, none⟩ r).setCell ⟨g, d, none⟩ s) (some g) :=
  (((grownBy_setCell (p := ⟨g, a, none⟩) rfl p).trans (grownBy_setCell (p := ⟨g, b, none⟩) rfl q)).trans (grownBy_setCell (p := ⟨g, c, none⟩) rfl r)).trans (grownBy_setCell (p := ⟨g, d, none⟩) rfl s)
theorem grownBy_drew (w : World) (row : Option Nat) : w.grownBy w.drew row := ⟨rfl, rfl, rfl, Nat.le_refl _, fun _ _ _ => rfl⟩
theorem Live.drew {w : World} {g off : Nat} {l : List (Int × Int)} (h : Live encV 2 w g off l) : Live encV 2 w.drew g off l := h.of ((SinceOf.refl _).drew)

set_option maxRecDepth 100000 in
set_option maxHeartbeats 4000000 in
theorem swapRange_any (g off c a b n : Nat) (l : List (Int × Int)) (w : World) (fv : Value) (hL : Live encV 2 w g off l) (hn : l.length ≤ 100000) (h1 : a + n ≤ b) (h2 : b + n ≤ l.length) :
    Calls Try.prog 131 #[.slice (some ⟨g, off, none⟩) l.length c, .int .i64 a, .int .i64 b, .int .i64 n, fv] w fun e w' => e = .returned (.tuple #[]) ∧ Live encV 2 w' g off (swapF l a b n) ∧ w.grownBy w' (some g) := by
  have HL := Lib.hid hL
  clear hL
  go_enter Try.func131, Try.ntmps131
  go_wp2_with fail
  go_loopg [10] n (fun gas s10 wr => ∃ i : Nat, i ≤ n ∧ n - i ≤ gas ∧ s10 = .int .i64 i ∧ Live encV 2 wr g off (swapF l a b i) ∧ w.grownBy wr (some g))
  case atStart => exact ⟨0, by omega, by omega, by go_num, HL.out, World.grownBy.refl _ _⟩
  case round =>
    obtain ⟨i, hi, hgas, rfl, hlv, hgr⟩ := hrel
    obtain ⟨u, rfl⟩ : ∃ u, u = wr := ⟨_, rfl⟩
    by_cases hlt : i < n
    · obtain ⟨L, hLd⟩ : ∃ L, L = swapF l a b i := ⟨_, rfl⟩
      have hll : L.length = l.length := by rw [hLd]; exact swapF_len l a b i
      have hsw : swapF l a b (i + 1) = swp2 L (a + i) (b + i) := by rw [hLd]; rfl
      rw [← hLd] at hlv
      have hxl : a + i < L.length := by omega
      have hyl : b + i < L.length := by omega
      obtain ⟨x, hx⟩ : ∃ x, x = a + i := ⟨_, rfl⟩
      obtain ⟨y, hy⟩ : ∃ y, y = b + i := ⟨_, rfl⟩
      rw [← hx] at hxl hsw
      rw [← hy] at hyl hsw
      have ex : (a : Int) + (i : Int) = (x : Int) := by omega
      have ey : (b : Int) + (i : Int) = (y : Int) := by omega
      have wx : IntKind.i64.wrap (x : Int) = (x : Int) := IntWalk.i64_in _ (by omega)
      have wy : IntKind.i64.wrap (y : Int) = (y : Int) := IntWalk.i64_in _ (by omega)
      have hxy : x < y := by omega
      have x0 := hlv.row.v0 x hxl
      have x1 := hlv.row.v1 x hxl
      have y0 := hlv.row.v0 y hyl
      have y1 := hlv.row.v1 y hyl
      rw [at0_eq' hxl] at x0 x1
      rw [at0_eq' hyl] at y0 y1
      have fx0 := hlv.free (x * 2) (by omega)
      have fx1 := hlv.free (x * 2 + 1) (by omega)
      have fy0 := hlv.free (y * 2) (by omega)
      have fy1 := hlv.free (y * 2 + 1) (by omega)
      rw [← Nat.add_assoc] at fx1 fy1
      have hO := hlv.row.there
      have hxl' : x < l.length := by omega
      have hyl' : y < l.length := by omega
      obtain ⟨⟨px, py⟩, hp⟩ : ∃ p, p = at0 L x := ⟨_, rfl⟩
      obtain ⟨⟨qx, qy⟩, hq⟩ : ∃ q, q = at0 L y := ⟨_, rfl⟩
      rw [← hp] at x0 x1
      rw [← hq] at y0 y1
      simp only at x0 x1 y0 y1
      have HS := Lib.hid (And.intro (hlv.swap2 hxl hyl hp.symm hq.symm) (And.intro hsw hgr))
      clear hlv hsw hgr hp hq hx hy hLd h1 h2
      go_upto_region 3 with fail
      go_big_region
      all_goals go_wp2_with fail
      all_goals go_roundg (n - (i + 1))
      case measure => omega
      case rel => exact ⟨i + 1, hlt, Nat.le_refl _, by go_num, by rw [HS.out.2.1]; exact HS.out.1.drew, (HS.out.2.2.trans (swap2_grown _ _ _ _ _ _ _ _ _ _)).trans (grownBy_drew _ _)⟩
    · obtain rfl : i = n := by omega
      have HR := Lib.hid (And.intro hlv hgr)
      clear hlv hgr
      go_wp2_with fail
      go_end0
      exact ⟨rfl, HR.out.1, HR.out.2⟩
set_option maxRecDepth 100000 in
set_option maxHeartbeats 4000000 in
theorem rotate_any (g off c a m b : Nat) (l : List (Int × Int)) (w : World) (fv : Value) (hL : Live encV 2 w g off l) (hn : l.length ≤ 100000) (h1 : a < m) (h2 : m < b) (h3 : b ≤ l.length) :
    Calls Try.prog 120 #[.slice (some ⟨g, off, none⟩) l.length c, .int .i64 a, .int .i64 m, .int .i64 b, fv] w fun e w' => e = .returned (.tuple #[]) ∧ ∃ l', Live encV 2 w' g off l' ∧ Rot l l' a m b ∧ Re l l' a b ∧ w.grownBy w' (some g) := by
  have HL := Lib.hid hL
  clear hL
  go_enter Try.func120, Try.ntmps120
  go_wp2_with fail
  go_loopg [10, 11] (b - a) (fun gas s10 s11 wr => ∃ (i j : Nat) (L : List Pt), 0 < i ∧ 0 < j ∧ i ≤ m - a ∧ j ≤ b - m ∧ i + j ≤ gas ∧ s10 = .int .i64 i ∧ s11 = .int .i64 j ∧ Live encV 2 wr g off L ∧ Re l L a b ∧ (∀ T, Rot L T (m - i) m (m + j) → Rot l T a m b) ∧ w.grownBy wr (some g))
  case atStart => exact ⟨m - a, b - m, l, by omega, by omega, Nat.le_refl _, Nat.le_refl _, by omega, (by congr 1; omega), (by congr 1; omega), HL.out, Re.refl _ _ _, fun T hT => (by rw [show m - (m - a) = a by omega, show m + (b - m) = b by omega] at hT; exact hT), World.grownBy.refl _ _⟩
  case round =>
    obtain ⟨i, j, L, hi0, hj0, hi, hj, hgas, rfl, rfl, hlv, hre, hrot, hgr⟩ := hrel
    obtain ⟨u, rfl⟩ : ∃ u, u = wr := ⟨_, rfl⟩
    have hll := hre.len
    have hw := hgr
    obtain ⟨x, hx⟩ : ∃ x, x = m - i := ⟨_, rfl⟩
    have ex : (m : Int) - (i : Int) = (x : Int) := by omega
    by_cases hlt : j < i
    · have SW := swapRange_any g off c (m - i) m j L u fv hlv (by omega) (by omega) (by omega)
      rw [hll, ← hx] at SW
      have hrot' : ∀ T, Rot (swapF L (m - i) m j) T (m - (i - j)) m (m + j) → Rot l T a m b := fun T hT => hrot T (Rot.left (by omega) hlt (by omega) hT)
      have hre' : Re l (swapF L (m - i) m j) a b := hre.trans (swapF_re (by omega) (by omega) (by omega) (by omega))
      rw [← hx] at hrot' hre'
      have g1 : ((i : Int) != (j : Int)) = true := by simp; omega
      have g2 : ((i : Int) == (j : Int)) = false := by simp; omega
      have g3 : decide ((j : Int) < (i : Int)) = true := decide_eq_true (by omega)
      have HS := Lib.hid (And.intro hrot' (And.intro hre' hgr))
      clear hrot hre hgr hrot' hre' hlv hx
      go_wp2_with fail
      refine SW.mono ?_
      rintro e w' ⟨rfl, hl', hg'⟩
      have HC := Lib.hid (And.intro hl' hg')
      clear hl' hg' SW
      go_wp2_with fail
      go_roundg (i - j + j)
      case measure => omega
      case rel => exact ⟨i - j, j, _, by omega, hj0, by omega, hj, Nat.le_refl _, (by congr 1; omega), rfl, HC.out.1, HS.out.2.1, HS.out.1, HS.out.2.2.trans HC.out.2⟩
    · by_cases hgt : i < j
      · obtain ⟨y, hy⟩ : ∃ y, y = m + j - i := ⟨_, rfl⟩
        have ey : (m : Int) + (j : Int) - (i : Int) = (y : Int) := by omega
        have SW := swapRange_any g off c (m - i) (m + j - i) i L u fv hlv (by omega) (by omega) (by omega)
        rw [hll, ← hx, ← hy] at SW
        have hrot' : ∀ T, Rot (swapF L (m - i) (m + j - i) i) T (m - i) m (m + (j - i)) → Rot l T a m b := fun T hT => hrot T (Rot.right (by omega) hgt (by omega) hT)
        have hre' : Re l (swapF L (m - i) (m + j - i) i) a b := hre.trans (swapF_re (by omega) (by omega) (by omega) (by omega))
        rw [← hx, ← hy] at hrot' hre'
        have hrot2 : ∀ T, Rot (swapF L x y i) T (m - i) m (m + (j - i)) → Rot l T a m b := fun T hT => hrot' T (by rw [hx]; rw [hx] at hT; exact hT)
        have g1 : ((i : Int) != (j : Int)) = true := by simp; omega
        have g2 : ((i : Int) == (j : Int)) = false := by simp; omega
        have g3 : decide ((j : Int) < (i : Int)) = false := decide_eq_false (by omega)
        have HS := Lib.hid (And.intro hrot2 (And.intro hre' hgr))
        clear hrot hre hgr hrot' hrot2 hre' hlv hx hy
        go_wp2_with fail
        refine SW.mono ?_
        rintro e w' ⟨rfl, hl', hg'⟩
        have HC := Lib.hid (And.intro hl' hg')
        clear hl' hg' SW
        go_wp2_with fail
        go_roundg (i + (j - i))
        case measure => omega
        case rel => exact ⟨i, j - i, _, hi0, by omega, hi, by omega, Nat.le_refl _, rfl, (by congr 1; omega), HC.out.1, HS.out.2.1, HS.out.1, HS.out.2.2.trans HC.out.2⟩
      · obtain rfl : i = j := by omega
        have SW := swapRange_any g off c (m - i) m i L u fv hlv (by omega) (by omega) (by omega)
        rw [hll, ← hx] at SW
        have hrot' : Rot l (swapF L (m - i) m i) a m b := hrot _ (Rot.same (by omega) (by omega))
        have hre' : Re l (swapF L (m - i) m i) a b := hre.trans (swapF_re (by omega) (by omega) (by omega) (by omega))
        rw [← hx] at hrot' hre'
        have g1 : ((i : Int) != (i : Int)) = false := by simp
        have HS := Lib.hid (And.intro hrot' (And.intro hre' hgr))
        clear hrot hre hgr hrot' hre' hlv hx
        go_wp2_with fail
        refine SW.mono ?_
        rintro e w' ⟨rfl, hl', hg'⟩
        have HC := Lib.hid (And.intro hl' hg')
        clear hl' hg' SW
        go_wp2_with fail
        go_end0
        exact ⟨rfl, _, HC.out.1, HS.out.1, HS.out.2.1, HS.out.2.2.trans HC.out.2⟩
end Go.Proofs.Ytbienlhofkfdpaa
