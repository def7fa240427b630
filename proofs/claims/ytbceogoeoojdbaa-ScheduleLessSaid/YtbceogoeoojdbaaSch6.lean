/- Layer 52: slots; follows; Contains of ints. -/
import Derived.Test.YtbceogoeoojdbaaSch5
namespace Go.Proofs.Ytbceogoeoojdbaa
open Go.RowKit Go.Sort
set_option linter.unusedVariables false
attribute [local go_sem ↓] Go.wp_at_zero Go.wp_at_succ

structure SlotR where
  job : Int
  mach : Int
  start : Int
  stop : Int
def encS (x : SlotR) : List Value := [.int .i64 x.job, .int .i64 x.mach, .int .i64 x.start, .int .i64 x.stop]
abbrev slotV (x : SlotR) : Value := .agg #[.int .i64 x.job, .int .i64 x.mach, .int .i64 x.start, .int .i64 x.stop]
abbrev IsSlots (w : World) (A : Option Addr) (c : Nat) (l : List SlotR) : Prop := IsRow encS 4 w A c l
theorem encS_len (p : SlotR) : (encS p).length = 4 := rfl
section
variable {w : World} {g off : Nat} {l : List SlotR}
theorem RowAt.s0 (h : RowAt encS 4 w g off l) (i : Nat) (hi : i < l.length) : w.cell? ⟨g, off + i * 4, none⟩ = some (.int .i64 l[i].job) := h.cells i hi 0 _ rfl
theorem RowAt.s1 (h : RowAt encS 4 w g off l) (i : Nat) (hi : i < l.length) : w.cell? ⟨g, off + i * 4 + 1, none⟩ = some (.int .i64 l[i].mach) := h.cells i hi 1 _ rfl
theorem RowAt.s2 (h : RowAt encS 4 w g off l) (i : Nat) (hi : i < l.length) : w.cell? ⟨g, off + i * 4 + 2, none⟩ = some (.int .i64 l[i].start) := h.cells i hi 2 _ rfl
theorem RowAt.s3 (h : RowAt encS 4 w g off l) (i : Nat) (hi : i < l.length) : w.cell? ⟨g, off + i * 4 + 3, none⟩ = some (.int .i64 l[i].stop) := h.cells i hi 3 _ rfl
end
/-- What Check says of a problem, as far as the walks need it. -/
structure GoodP (s : ShopR) (L : List JobR) : Prop where
  sz : ∀ a (h : a < s.rows.length), s.rows[a].xs.length = s.rows.length
  cls : ∀ j ∈ L, 0 ≤ j.cls ∧ j.cls < s.rows.length
def calAt (s : ShopR) (m : Int) : CalR := s.cals.getD m.toNat ⟨0, none, 0, [], none, 0, []⟩
def jobAt (L : List JobR) (j : Int) : JobR := L.getD j.toNat ⟨none, 0, [], 0, 0, 0, 0, 0⟩
def setupAt (s : ShopR) (L : List JobR) (a b : Int) : Int := get2 s.rows (jobAt L a).cls.toNat (jobAt L b).cls.toNat
def workAt (s : ShopR) (m a b : Int) : Int × Int := workV (calAt s m).P (calAt s m).S (calAt s m).D a b
def followsB (s : ShopR) (L : List JobR) (a b : SlotR) : Bool := !decide (b.start < a.stop) && ((workAt s a.mach a.stop b.start).2 == 0 && decide (setupAt s L a.job b.job ≤ (workAt s a.mach a.stop b.start).1))
theorem calAt_at {s : ShopR} {m : Nat} (h : m < s.cals.length) : calAt s m = s.cals[m] := by
  unfold calAt; rw [List.getD_eq_getElem?_getD, Int.toNat_natCast, List.getElem?_eq_getElem h, Option.getD_some]
theorem jobAt_at {L : List JobR} {m : Nat} (h : m < L.length) : jobAt L m = L[m] := by
  unfold jobAt; rw [List.getD_eq_getElem?_getD, Int.toNat_natCast, List.getElem?_eq_getElem h, Option.getD_some]
set_option maxRecDepth 100000 in
set_option maxHeartbeats 4000000 in
theorem follows_any (s : ShopR) (A : Option Addr) (c : Nat) (L : List JobR) (a b : SlotR) (w : World) (hs : IsShop w s) (h : IsJobs w A c L) (gp : GoodP s L) (hm : 0 ≤ a.mach ∧ a.mach < s.cals.length) (ha : 0 ≤ a.job ∧ a.job < L.length) (hb : 0 ≤ b.job ∧ b.job < L.length) :
    Gives Try.prog 113 #[shopV s, .slice A L.length c, slotV a, slotV b] w (.bool (followsB s L a b)) := by
  apply Gives.ret
  obtain ⟨aj, am, a1, a2⟩ := a
  obtain ⟨bj, bm, b1, b2⟩ := b
  simp only at hm ha hb
  obtain ⟨m, rfl⟩ : ∃ m : Nat, am = m := ⟨am.toNat, by omega⟩
  obtain ⟨ja, rfl⟩ : ∃ m : Nat, aj = m := ⟨aj.toNat, by omega⟩
  obtain ⟨jb, rfl⟩ : ∃ m : Nat, bj = m := ⟨bj.toNat, by omega⟩
  have hm' : m < s.cals.length := by omega
  have ha' : ja < L.length := by omega
  have hb' : jb < L.length := by omega
  have hfb : followsB s L ⟨ja, m, a1, a2⟩ ⟨jb, bm, b1, b2⟩ = (!decide (b1 < a2) && ((workAt s m a2 b1).2 == 0 && decide (setupAt s L ja jb ≤ (workAt s m a2 b1).1))) := rfl
  by_cases hlt : b1 < a2
  · rw [hfb, show decide (b1 < a2) = true from by simpa using hlt]
    clear hs h gp hfb
    go_enter Try.func113, Try.ntmps113
    go_wp2_with fail
    go_returns
    exact ⟨by simp, by (repeat (first | (with_reducible exact LaterOf.refl _) | (with_reducible refine LaterOf.alloc ?_ _) | (with_reducible refine LaterOf.drew ?_) | (with_reducible refine LaterOf.drewN ?_ _) | (with_reducible refine LaterOf.later ?_ _) | (with_reducible refine LaterOf.setCell ?_ (by first | exact Nat.le_refl _ | (simp; done) | omega | (simp; omega)) _)))⟩
  · have hlt' : decide (b1 < a2) = false := by simpa using hlt
    rw [hfb, hlt']
    have hcl := hs.cals.len
    have hrl := hs.rows.len
    have hll := h.len
    have W := fun W hW => work_law (w := W) a2 b1 ((hs.cals.all _ (List.getElem_mem hm')).of hW)
    have e1 : workAt s m a2 b1 = workV s.cals[m].P s.cals[m].S s.cals[m].D a2 b1 := by unfold workAt; rw [calAt_at hm']
    obtain ⟨ca0, ca1⟩ := gp.cls _ (List.getElem_mem ha')
    obtain ⟨cb0, cb1⟩ := gp.cls _ (List.getElem_mem hb')
    have e2 : setupAt s L ja jb = get2 s.rows L[ja].cls.toNat L[jb].cls.toNat := by unfold setupAt; rw [jobAt_at ha', jobAt_at hb']
    obtain ⟨p, hp⟩ : ∃ p : Nat, L[ja].cls = p := ⟨L[ja].cls.toNat, by omega⟩
    obtain ⟨q, hq⟩ : ∃ q : Nat, L[jb].cls = q := ⟨L[jb].cls.toNat, by omega⟩
    have hp' : p < s.rows.length := by omega
    have hq' : q < s.rows.length := by omega
    rw [hp, hq, Int.toNat_natCast, Int.toNat_natCast] at e2
    have hz := gp.sz p hp'
    have hrw := hs.rows.all _ (List.getElem_mem hp')
    obtain ⟨gc, oc, hAc, hrc⟩ := hs.cals.row.at_ (by omega)
    obtain ⟨gj, oj, hAj, hrj⟩ := h.row.at_ (by omega)
    obtain ⟨gr, og, hAr, hrr⟩ := hs.rows.row.at_ (by omega)
    obtain ⟨gx, ox, hAx, hrx⟩ := hrw.1.at_ (by omega)
    have hOc := hrc.there
    have hOj := hrj.there
    have hOr := hrr.there
    have hOx := hrx.there
    have c0 := hrc.k0 m hm'
    have c1 := hrc.k1 m hm'
    have c2 := hrc.k2 m hm'
    have j2 := hrj.j2 ja ha'
    have i2 := hrj.j2 jb hb'
    have r0 := hrr.r0 p hp'
    have x0 := hrx.n0 q (by omega)
    rw [← get2_at hp' (by omega)] at x0
    rw [hp] at j2
    rw [hq] at i2
    rw [hAx, hz] at r0
    rw [e2, e1]
    simp only [pairV] at W
    generalize get2 s.rows p q = st at *
    generalize workV s.cals[m].P s.cals[m].S s.cals[m].D a2 b1 = wk at *
    obtain ⟨w1, w2⟩ := wk
    generalize s.cals[m] = K at *
    generalize s.rows[p].c = cx at *
    obtain ⟨sA, sc, cals, sB, sd, R, most⟩ := s
    simp only at *
    subst hAc hAj hAr
    clear hfb hs h gp hrc hrj hrr hrx hrw hAx e1 e2 hp hq hz
    have hcase : (w2 = 0) ∨ ((w2 == 0) = false) := by
      by_cases h0 : w2 = 0
      · exact .inl h0
      · exact .inr (by simpa using h0)
    rcases hcase with rfl | h0
    all_goals
      go_enter Try.func113, Try.ntmps113
      go_wp2_with fail
      refine region_later (by kernel_rfl) (by kernel_rfl) ?_
      repeat (go_big_quiet_step ((with_reducible refine Gives.later (W _ (by (repeat (first | (with_reducible exact SinceOf.refl _) | (with_reducible assumption) | (with_reducible refine SinceOf.alloc ?_ _) | (with_reducible refine SinceOf.drew ?_) | (with_reducible refine SinceOf.drewN ?_ _) | (with_reducible refine SinceOf.later ?_ _) | (with_reducible refine SinceOf.further ?_ _) | (with_reducible refine SinceOf.setCell ?_ (by first | exact Nat.le_refl _ | (simp; done) | omega | (simp; omega)) _))))))))
      refine wpQuiet_nil ?_
      rintro _ ⟨x1, rfl⟩
      go_wp2_with fail
      refine region_later (by kernel_rfl) (by kernel_rfl) ?_
      repeat (go_big_quiet_step (fail))
      refine wpQuiet_nil ?_
      rintro _ ⟨x2, rfl⟩
      go_wp2_with fail
      go_returns
      exact ⟨by simp [*], by (repeat (first | (with_reducible exact LaterOf.refl _) | (with_reducible refine LaterOf.alloc ?_ _) | (with_reducible refine LaterOf.drew ?_) | (with_reducible refine LaterOf.drewN ?_ _) | (with_reducible refine LaterOf.later ?_ _) | (with_reducible refine LaterOf.setCell ?_ (by first | exact Nat.le_refl _ | (simp; done) | omega | (simp; omega)) _)))⟩
end Go.Proofs.Ytbceogoeoojdbaa
