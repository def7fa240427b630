/- Layer 46: rows of ints; swapRange and rotate of the standard library's stable sort, at rows of ints. -/
import Derived.Test.YtkpnffokjpgalaaGreatKStbP
import Derived.Test.YtkpnffokjpgalaaGreatKSort
import Derived.BigRegion
import Derived.Outline
import Derived.Deep.CutBlock
import Derived.Deep.DeepCutAuto
import Derived.Deep.CutRange
import Derived.Deep.LoopGhost
import Derived.Deep.RegionHeld3
import Derived.RegionTactic
import Derived.ChangeAlike
import Derived.IntWalk
import Derived.Sort.WalkA
import Derived.Deep.DrawnRows
import Derived.Deep.RegionLaw
import Derived.Test.YtkpnffokjpgalaaGreatKMink1
namespace Go.Proofs.YtkpnffokjpgalaaGreat
set_option linter.unusedVariables false
set_option linter.unusedSimpArgs false
open Go.RowKit Go.Sort
attribute [local go_sem ↓] Go.wp_at_zero Go.wp_at_succ

/-- A row of ints, each the first part of an element. -/
def encQ (p : Pt) : List Value := [.int .i64 p.1]
theorem encQ_len (x : Pt) : (encQ x).length = 1 := rfl
theorem encQ_one (x : Pt) : ∀ u ∈ encQ x, u.oneCell' = true := by
  intro u hu
  simp only [encQ, List.mem_cons, List.not_mem_nil, or_false] at hu
  subst hu
  rfl
theorem RowAt.q0 {w : World} {g off : Nat} {l : List Pt} (h : RowAt encQ 1 w g off l) (i : Nat) (hi : i < l.length) : w.cell? ⟨g, off + i, none⟩ = some (.int .i64 (at0 l i).1) := by
  have := h.cells i hi 0 _ rfl
  rw [at0_eq hi]
  simpa using this
theorem Live.setQ {w : World} {g off : Nat} {l : List Pt} (h : Live encQ 1 w g off l) (i : Nat) (hi : i < l.length) (x : Int) (p : Pt) (hp : p.1 = x) :
    Live encQ 1 (w.setCell ⟨g, off + i, none⟩ (.int .i64 x)) g off (l.set i p) := by
  have hO := h.row.there
  have c0 := h.row.q0 i hi
  refine ⟨⟨fun j hj t u hu => ?_, inferInstance⟩, fun j hj => ?_⟩
  · have hj' : j < l.length := by simpa using hj
    have ht : t < 1 := by
      have := (List.getElem?_eq_some_iff.1 hu).1
      rwa [encQ_len] at this
    obtain rfl : t = 0 := by omega
    by_cases e : j = i
    · subst e
      simp only [List.getElem_set_self, encQ] at hu
      simp at hu; subst hu
      rw [Nat.add_zero, Nat.mul_one, hp]
      exact World.cell?_setCell_same _ _ _ c0
    · rw [List.getElem_set_ne (by omega)] at hu
      rw [World.cell?_setCell_other _ _ _ _ (by intro h; injection h with _ h2 _; omega)]
      exact h.row.cells j hj' 0 u hu
  · rw [List.length_set] at hj
    simp only [World.frozen?_setCell]
    exact h.free j hj
/-- What a swap in a row leaves. -/
theorem Live.swapQ {w : World} {g off : Nat} {l : List Pt} (h : Live encQ 1 w g off l) {x y : Nat} (hx : x < l.length) (hy : y < l.length) {px py qx qy : Int} (ep : at0 l x = (px, py)) (eq : at0 l y = (qx, qy)) :
    Live encQ 1 ((w.setCell ⟨g, off + x, none⟩ (.int .i64 qx)).setCell ⟨g, off + y, none⟩ (.int .i64 px)) g off (swp2 l x y) := by
  have := (h.setQ x hx qx (qx, qy) rfl).setQ y (by simpa using hy) px (px, py) rfl
  unfold swp2
  rw [ep, eq]
  exact this
theorem swapQ_grown (w : World) (g a c : Nat) (p r : Value) : w.grownBy ((w.setCell ⟨g, a, none⟩ p).setCell ⟨g, c, none⟩ r) (some g) :=
  (grownBy_setCell (p := ⟨g, a, none⟩) rfl p).trans (grownBy_setCell (p := ⟨g, c, none⟩) rfl r)
theorem grownBy_drewQ (w : World) (row : Option Nat) : w.grownBy w.drew row := ⟨rfl, rfl, rfl, Nat.le_refl _, fun _ _ _ => rfl⟩
theorem Live.drewQ {w : World} {g off : Nat} {l : List Pt} (h : Live encQ 1 w g off l) : Live encQ 1 w.drew g off l := h.of ((SinceOf.refl _).drew)
set_option maxRecDepth 100000 in
set_option maxHeartbeats 4000000 in
theorem swapRange_any (g off c a b n : Nat) (l : List Pt) (w : World) (fv : Value) (hL : Live encQ 1 w g off l) (hn : l.length ≤ 100000) (h1 : a + n ≤ b) (h2 : b + n ≤ l.length) :
    Calls Tryz.prog 144 #[.slice (some ⟨g, off, none⟩) l.length c, .int .i64 a, .int .i64 b, .int .i64 n, fv] w fun e w' => e = .returned (.tuple #[]) ∧ Live encQ 1 w' g off (swapF l a b n) ∧ w.grownBy w' (some g) := by
  have HL := Lib.hid hL
  clear hL
  go_enter Tryz.func144, Tryz.ntmps144
  go_wp2_with fail
  go_loopg [10] n (fun gas s10 wr => ∃ i : Nat, i ≤ n ∧ n - i ≤ gas ∧ s10 = .int .i64 i ∧ Live encQ 1 wr g off (swapF l a b i) ∧ w.grownBy wr (some g))
  case atStart => exact ⟨0, by omega, by omega, by go_num, HL.out, World.grownBy.refl _ _⟩
  case round =>
    obtain ⟨i, hi, hgas, rfl, hlv, hgr⟩ := hrel
    obtain ⟨u, rfl⟩ : ∃ u, u = wr := ⟨_, rfl⟩
    by_cases hlt : i < n
    · obtain ⟨L, hLd⟩ : ∃ L, L = swapF l a b i := ⟨_, rfl⟩
      have hll : L.length = l.length := by rw [hLd]; exact swapF_len l a b i
      have hsw : swapF l a b (i + 1) = swp2 L (a + i) (b + i) := by rw [hLd]; rfl
      rw [← hLd] at hlv
      have hxl : a + i < L.length := by omega
      have hyl : b + i < L.length := by omega
      obtain ⟨x, hx⟩ : ∃ x, x = a + i := ⟨_, rfl⟩
      obtain ⟨y, hy⟩ : ∃ y, y = b + i := ⟨_, rfl⟩
      rw [← hx] at hxl hsw
      rw [← hy] at hyl hsw
      have ex : (a : Int) + (i : Int) = (x : Int) := by omega
      have ey : (b : Int) + (i : Int) = (y : Int) := by omega
      have wx : IntKind.i64.wrap (x : Int) = (x : Int) := IntWalk.i64_in _ (by omega)
      have wy : IntKind.i64.wrap (y : Int) = (y : Int) := IntWalk.i64_in _ (by omega)
      have hxy : x < y := by omega
      have x0 := hlv.row.q0 x hxl
      have y0 := hlv.row.q0 y hyl
      have fx0 := hlv.free x (by omega)
      have fy0 := hlv.free y (by omega)
      have hO := hlv.row.there
      have hxl' : x < l.length := by omega
      have hyl' : y < l.length := by omega
      obtain ⟨⟨px, py⟩, hp⟩ : ∃ p, p = at0 L x := ⟨_, rfl⟩
      obtain ⟨⟨qx, qy⟩, hq⟩ : ∃ q, q = at0 L y := ⟨_, rfl⟩
      rw [← hp] at x0
      rw [← hq] at y0
      simp only at x0 y0
      have HS := Lib.hid (And.intro (hlv.swapQ hxl hyl hp.symm hq.symm) (And.intro hsw hgr))
      clear hlv hsw hgr hp hq hx hy hLd h1 h2
      go_upto_region 3 with fail
      go_big_region
      all_goals go_wp2_with fail
      all_goals go_roundg (n - (i + 1))
      case measure => omega
      case rel => exact ⟨i + 1, hlt, Nat.le_refl _, by go_num, by rw [HS.out.2.1]; exact HS.out.1.drewQ, (HS.out.2.2.trans (swapQ_grown _ _ _ _ _ _)).trans (grownBy_drewQ _ _)⟩
    · obtain rfl : i = n := by omega
      have HR := Lib.hid (And.intro hlv hgr)
      clear hlv hgr
      go_wp2_with fail
      go_end0
      exact ⟨rfl, HR.out.1, HR.out.2⟩
set_option maxRecDepth 100000 in
set_option maxHeartbeats 4000000 in
theorem rotate_any (g off c a m b : Nat) (l : List Pt) (w : World) (fv : Value) (hL : Live encQ 1 w g off l) (hn : l.length ≤ 100000) (h1 : a < m) (h2 : m < b) (h3 : b ≤ l.length) :
    Calls Tryz.prog 132 #[.slice (some ⟨g, off, none⟩) l.length c, .int .i64 a, .int .i64 m, .int .i64 b, fv] w fun e w' => e = .returned (.tuple #[]) ∧ ∃ l', Live encQ 1 w' g off l' ∧ Rot l l' a m b ∧ Re l l' a b ∧ w.grownBy w' (some g) := by
  have HL := Lib.hid hL
  clear hL
  go_enter Tryz.func132, Tryz.ntmps132
  go_wp2_with fail
  go_loopg [10, 11] (b - a) (fun gas s10 s11 wr => ∃ (i j : Nat) (L : List Pt), 0 < i ∧ 0 < j ∧ i ≤ m - a ∧ j ≤ b - m ∧ i + j ≤ gas ∧ s10 = .int .i64 i ∧ s11 = .int .i64 j ∧ Live encQ 1 wr g off L ∧ Re l L a b ∧ (∀ T, Rot L T (m - i) m (m + j) → Rot l T a m b) ∧ w.grownBy wr (some g))
  case atStart => exact ⟨m - a, b - m, l, by omega, by omega, Nat.le_refl _, Nat.le_refl _, by omega, (by congr 1; omega), (by congr 1; omega), HL.out, Re.refl _ _ _, fun T hT => (by rw [show m - (m - a) = a by omega, show m + (b - m) = b by omega] at hT; exact hT), World.grownBy.refl _ _⟩
  case round =>
    obtain ⟨i, j, L, hi0, hj0, hi, hj, hgas, rfl, rfl, hlv, hre, hrot, hgr⟩ := hrel
    obtain ⟨u, rfl⟩ : ∃ u, u = wr := ⟨_, rfl⟩
    have hll := hre.len
    have hw := hgr
    obtain ⟨x, hx⟩ : ∃ x, x = m - i := ⟨_, rfl⟩
    have ex : (m : Int) - (i : Int) = (x : Int) := by omega
    by_cases hlt : j < i
    · have SW := swapRange_any g off c (m - i) m j L u fv hlv (by omega) (by omega) (by omega)
      rw [hll, ← hx] at SW
      have hrot' : ∀ T, Rot (swapF L (m - i) m j) T (m - (i - j)) m (m + j) → Rot l T a m b := fun T hT => hrot T (Rot.left (by omega) hlt (by omega) hT)
      have hre' : Re l (swapF L (m - i) m j) a b := hre.trans (swapF_re (by omega) (by omega) (by omega) (by omega))
      rw [← hx] at hrot' hre'
      have g1 : ((i : Int) != (j : Int)) = true := by simp; omega
      have g2 : ((i : Int) == (j : Int)) = false := by simp; omega
      have g3 : decide ((j : Int) < (i : Int)) = true := decide_eq_true (by omega)
      have HS := Lib.hid (And.intro hrot' (And.intro hre' hgr))
      clear hrot hre hgr hrot' hre' hlv hx
      go_wp2_with fail
      refine SW.mono ?_
      rintro e w' ⟨rfl, hl', hg'⟩
      have HC := Lib.hid (And.intro hl' hg')
      clear hl' hg' SW
      go_wp2_with fail
      go_roundg (i - j + j)
      case measure => omega
      case rel => exact ⟨i - j, j, _, by omega, hj0, by omega, hj, Nat.le_refl _, (by congr 1; omega), rfl, HC.out.1, HS.out.2.1, HS.out.1, HS.out.2.2.trans HC.out.2⟩
    · by_cases hgt : i < j
      · obtain ⟨y, hy⟩ : ∃ y, y = m + j - i := ⟨_, rfl⟩
        have ey : (m : Int) + (j : Int) - (i : Int) = (y : Int) := by omega
        have SW := swapRange_any g off c (m - i) (m + j - i) i L u fv hlv (by omega) (by omega) (by omega)
        rw [hll, ← hx, ← hy] at SW
        have hrot' : ∀ T, Rot (swapF L (m - i) (m + j - i) i) T (m - i) m (m + (j - i)) → Rot l T a m b := fun T hT => hrot T (Rot.right (by omega) hgt (by omega) hT)
        have hre' : Re l (swapF L (m - i) (m + j - i) i) a b := hre.trans (swapF_re (by omega) (by omega) (by omega) (by omega))
        rw [← hx, ← hy] at hrot' hre'
        have hrot2 : ∀ T, Rot (swapF L x y i) T (m - i) m (m + (j - i)) → Rot l T a m b := fun T hT => hrot' T (by rw [hx]; rw [hx] at hT; exact hT)
        have g1 : ((i : Int) != (j : Int)) = true := by simp; omega
        have g2 : ((i : Int) == (j : Int)) = false := by simp; omega
        have g3 : decide ((j : Int) < (i : Int)) = false := decide_eq_false (by omega)
        have HS := Lib.hid (And.intro hrot2 (And.intro hre' hgr))
        clear hrot hre hgr hrot' hrot2 hre' hlv hx hy
        go_wp2_with fail
        refine SW.mono ?_
        rintro e w' ⟨rfl, hl', hg'⟩
        have HC := Lib.hid (And.intro hl' hg')
        clear hl' hg' SW
        go_wp2_with fail
        go_roundg (i + (j - i))
        case measure => omega
        case rel => exact ⟨i, j - i, _, hi0, by omega, hi, by omega, Nat.le_refl _, rfl, (by congr 1; omega), HC.out.1, HS.out.2.1, HS.out.1, HS.out.2.2.trans HC.out.2⟩
      · obtain rfl : i = j := by omega
        have SW := swapRange_any g off c (m - i) m i L u fv hlv (by omega) (by omega) (by omega)
        rw [hll, ← hx] at SW
        have hrot' : Rot l (swapF L (m - i) m i) a m b := hrot _ (Rot.same (by omega) (by omega))
        have hre' : Re l (swapF L (m - i) m i) a b := hre.trans (swapF_re (by omega) (by omega) (by omega) (by omega))
        rw [← hx] at hrot' hre'
        have g1 : ((i : Int) != (i : Int)) = false := by simp
        have HS := Lib.hid (And.intro hrot' (And.intro hre' hgr))
        clear hrot hre hgr hrot' hre' hlv hx
        go_wp2_with fail
        refine SW.mono ?_
        rintro e w' ⟨rfl, hl', hg'⟩
        have HC := Lib.hid (And.intro hl' hg')
        clear hl' hg' SW
        go_wp2_with fail
        go_end0
        exact ⟨rfl, _, HC.out.1, HS.out.1, HS.out.2.1, HS.out.2.2.trans HC.out.2⟩
end Go.Proofs.YtkpnffokjpgalaaGreat
