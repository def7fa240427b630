/- Layer 52: Check. -/
import Derived.Test.YtdcncalcncomoaaSch4
namespace Go.Proofs.Ytdcncalcncomoaa
open Go.RowKit Go.Sort
set_option linter.unusedVariables false
attribute [local go_sem ↓] Go.wp_at_zero Go.wp_at_succ

/-- A variable that holds a shop. -/
structure ShopAt (w : World) (g : Nat) (s : ShopR) : Prop where
  c0 : w.cell? ⟨g, 0, none⟩ = some (.slice s.A s.cals.length s.c)
  c1 : w.cell? ⟨g, 1, none⟩ = some (.slice s.B s.rows.length s.d)
  c2 : w.cell? ⟨g, 2, none⟩ = some (.int .i64 s.most)
  there : Nonempty (Old w g)
theorem ShopAt.of {w w' : World} {g : Nat} {s : ShopR} (h : ShopAt w g s) (hs : SinceOf w w') : ShopAt w' g s := by
  obtain ⟨z, rfl⟩ := hs
  have := h.there
  exact ⟨by rw [Since.cell]; exact h.c0, by rw [Since.cell]; exact h.c1, by rw [Since.cell]; exact h.c2, inferInstance⟩
theorem checkFn_any (s : ShopR) (j : JobR) (b : Nat) (w : World) (hs : ShopAt w b s) (hj : IsInts w j.A j.c j.ms) (hl : j.ms.length < 4611686018427387904) (hcl : s.cals.length < 4611686018427387904) (hrl : s.rows.length < 4611686018427387904) :
    Gives Try.prog 49 #[jobV j, .pointer (some ⟨b, 0, none⟩)] w (.bool (!jobB s j)) := by
  apply Gives.ret
  have J := fun W hW => job_any s j W (hj.of hW) hl hcl hrl
  obtain ⟨c0, c1, c2, hO⟩ := hs
  generalize jobB s j = q at *
  clear hj hl
  go_enter Try.func49, Try.ntmps49
  go_wp2_with fail
  refine (J _ (by (repeat (first | (with_reducible exact SinceOf.refl _) | (with_reducible assumption) | (with_reducible refine SinceOf.alloc ?_ _) | (with_reducible refine SinceOf.drew ?_) | (with_reducible refine SinceOf.drewN ?_ _) | (with_reducible refine SinceOf.later ?_ _) | (with_reducible refine SinceOf.further ?_ _) | (with_reducible refine SinceOf.setCell ?_ (by first | exact Nat.le_refl _ | (simp; done) | omega | (simp; omega)) _))))).calls.mono ?_
  rintro e _ ⟨rfl, x1, rfl⟩
  go_wp2_with fail
  go_returns
  exact ⟨rfl, by (repeat (first | (with_reducible exact LaterOf.refl _) | (with_reducible refine LaterOf.alloc ?_ _) | (with_reducible refine LaterOf.drew ?_) | (with_reducible refine LaterOf.drewN ?_ _) | (with_reducible refine LaterOf.later ?_ _) | (with_reducible refine LaterOf.setCell ?_ (by first | exact Nat.le_refl _ | (simp; done) | omega | (simp; omega)) _)))⟩
set_option maxRecDepth 100000 in
set_option maxHeartbeats 2000000 in
theorem indexJob_any (s : ShopR) (b : Nat) (A : Option Addr) (c : Nat) (L : List JobR) (w : World) (hs : ShopAt w b s) (h : IsJobs w A c L) (hcl : s.cals.length < 4611686018427387904) (hrl : s.rows.length < 4611686018427387904) :
    Calls Try.prog 69 #[.slice A L.length c, .func (.func 49) #[] #[.pointer (some ⟨b, 0, none⟩)]] w fun e w' => ∃ r : Int, e = .returned (.int .i64 r) ∧ decide (0 ≤ r) = L.any (fun j => !jobB s j) ∧ LaterOf w w' := by
  have H := Lib.hid (And.intro h hs)
  have hlen := h.len
  clear h hs
  go_enter Try.func69, Try.ntmps69
  go_wp2_with fail
  go_loopg [8] L.length (fun gas s8 wr => ∃ k : Nat, k ≤ L.length ∧ L.length - k ≤ gas ∧ s8 = .int .i64 k ∧ LaterOf w wr ∧ L.any (fun j => !jobB s j) = (L.drop k).any (fun j => !jobB s j))
  case atStart => exact ⟨0, by omega, by omega, rfl, by (repeat (first | (with_reducible exact LaterOf.refl _) | (with_reducible refine LaterOf.alloc ?_ _) | (with_reducible refine LaterOf.drew ?_) | (with_reducible refine LaterOf.drewN ?_ _) | (with_reducible refine LaterOf.later ?_ _) | (with_reducible refine LaterOf.setCell ?_ (by first | exact Nat.le_refl _ | (simp; done) | omega | (simp; omega)) _))), by rw [List.drop_zero]⟩
  case round =>
    obtain ⟨k, hk, hgas, rfl, ⟨z, rfl⟩, hany⟩ := hrel
    by_cases hlt : k < L.length
    · have hc := (H.out.1.of (LaterOf.since ⟨z, rfl⟩))
      have hja := hc.all _ (List.getElem_mem hlt)
      have C := checkFn_any s L[k] b z.wd (H.out.2.of (LaterOf.since ⟨z, rfl⟩)) hja.1 hja.2 hcl hrl
      obtain ⟨g, off, rfl, hr⟩ := hc.row.at_ (by omega)
      have hO := hr.there
      have k0 := hr.j0 k hlt
      have k1 := hr.j1 k hlt
      have k2 := hr.j2 k hlt
      have k3 := hr.j3 k hlt
      have k4 := hr.j4 k hlt
      have k5 := hr.j5 k hlt
      rw [any_drop (fun j => !jobB s j) hlt] at hany
      generalize L[k] = x at *
      clear hc hr hja
      cases hx : jobB s x
      · rw [hx] at C hany
        rw [Bool.not_false, Bool.true_or] at hany
        have HA := Lib.hid hany
        clear hany hx
        go_wp2_with fail
        refine C.calls.mono ?_
        rintro e _ ⟨rfl, x1, rfl⟩
        go_wp2_with fail
        go_returns
        exact ⟨k, rfl, by rw [HA.out]; simp, by (repeat (first | (with_reducible exact LaterOf.refl _) | (with_reducible refine LaterOf.alloc ?_ _) | (with_reducible refine LaterOf.drew ?_) | (with_reducible refine LaterOf.drewN ?_ _) | (with_reducible refine LaterOf.later ?_ _) | (with_reducible refine LaterOf.setCell ?_ (by first | exact Nat.le_refl _ | (simp; done) | omega | (simp; omega)) _)))⟩
      · rw [hx] at C hany
        rw [Bool.not_true, Bool.false_or] at hany
        have HA := Lib.hid hany
        clear hany hx
        go_wp2_with fail
        refine C.calls.mono ?_
        rintro e _ ⟨rfl, x1, rfl⟩
        go_wp2_with fail
        go_roundg (L.length - (k + 1))
        case measure => omega
        case rel => exact ⟨k + 1, hlt, Nat.le_refl _, by go_num, by (repeat (first | (with_reducible exact LaterOf.refl _) | (with_reducible refine LaterOf.alloc ?_ _) | (with_reducible refine LaterOf.drew ?_) | (with_reducible refine LaterOf.drewN ?_ _) | (with_reducible refine LaterOf.later ?_ _) | (with_reducible refine LaterOf.setCell ?_ (by first | exact Nat.le_refl _ | (simp; done) | omega | (simp; omega)) _))), HA.out⟩
    · have hkl : k = L.length := by omega
      rw [hkl, List.drop_length] at hany
      have HA := Lib.hid hany
      clear hany
      go_wp2_with fail
      go_returns
      exact ⟨-1, rfl, by rw [HA.out]; rfl, by (repeat (first | (with_reducible exact LaterOf.refl _) | (with_reducible refine LaterOf.alloc ?_ _) | (with_reducible refine LaterOf.drew ?_) | (with_reducible refine LaterOf.drewN ?_ _) | (with_reducible refine LaterOf.later ?_ _) | (with_reducible refine LaterOf.setCell ?_ (by first | exact Nat.le_refl _ | (simp; done) | omega | (simp; omega)) _)))⟩
theorem containsJob_any (s : ShopR) (b : Nat) (A : Option Addr) (c : Nat) (L : List JobR) (w : World) (hs : ShopAt w b s) (h : IsJobs w A c L) (hcl : s.cals.length < 4611686018427387904) (hrl : s.rows.length < 4611686018427387904) :
    Gives Try.prog 48 #[.slice A L.length c, .func (.func 49) #[] #[.pointer (some ⟨b, 0, none⟩)]] w (.bool (L.any (fun j => !jobB s j))) := by
  apply Gives.ret
  have H := Lib.hid (And.intro h hs)
  clear h hs
  go_enter Try.func48, Try.ntmps48
  go_wp2_with fail
  refine (indexJob_any s b A c L _ H.out.2 H.out.1 hcl hrl).mono ?_
  rintro e _ ⟨r, rfl, hr, ⟨z, rfl⟩⟩
  have HA := Lib.hid hr
  clear hr
  go_wp2_with fail
  go_returns
  exact ⟨by show Ending.returned (.bool (decide (0 ≤ r))) = _; rw [HA.out], by (repeat (first | (with_reducible exact LaterOf.refl _) | (with_reducible refine LaterOf.alloc ?_ _) | (with_reducible refine LaterOf.drew ?_) | (with_reducible refine LaterOf.drewN ?_ _) | (with_reducible refine LaterOf.later ?_ _) | (with_reducible refine LaterOf.setCell ?_ (by first | exact Nat.le_refl _ | (simp; done) | omega | (simp; omega)) _)))⟩
def checkS (s : ShopR) (L : List JobR) : Bool := shopB s && (decide ((L.length : Int) ≤ 40) && !L.any (fun j => !jobB s j))
set_option maxHeartbeats 1000000 in
theorem check_any (s : ShopR) (A : Option Addr) (c : Nat) (L : List JobR) (w : World) (hs : IsShop w s) (h : IsJobs w A c L) : Gives Try.prog 25 #[shopV s, .slice A L.length c] w (.bool (checkS s L)) := by
  apply Gives.ret
  have SH := fun W hW => shop_any s W (hs.of hW)
  have hcl := hs.cals.len
  have hrl := hs.rows.len
  have hlen := h.len
  have CJ := fun b W (hW : SinceOf w W) hb => containsJob_any s b A c L W hb (h.of hW) hcl hrl
  have e : checkS s L = (shopB s && (decide ((L.length : Int) ≤ 40) && !L.any (fun j => !jobB s j))) := rfl
  rw [e]
  clear e
  generalize shopB s = q1 at *
  generalize L.any (fun j => !jobB s j) = q3 at *
  clear hs h
  cases q1
  · go_enter Try.func25, Try.ntmps25
    go_wp2_with fail
    refine (SH _ (by (repeat (first | (with_reducible exact SinceOf.refl _) | (with_reducible assumption) | (with_reducible refine SinceOf.alloc ?_ _) | (with_reducible refine SinceOf.drew ?_) | (with_reducible refine SinceOf.drewN ?_ _) | (with_reducible refine SinceOf.later ?_ _) | (with_reducible refine SinceOf.further ?_ _) | (with_reducible refine SinceOf.setCell ?_ (by first | exact Nat.le_refl _ | (simp; done) | omega | (simp; omega)) _))))).calls.mono ?_
    rintro e _ ⟨rfl, x1, rfl⟩
    go_wp2_with fail
    go_returns
    exact ⟨by simp, by (repeat (first | (with_reducible exact LaterOf.refl _) | (with_reducible refine LaterOf.alloc ?_ _) | (with_reducible refine LaterOf.drew ?_) | (with_reducible refine LaterOf.drewN ?_ _) | (with_reducible refine LaterOf.later ?_ _) | (with_reducible refine LaterOf.setCell ?_ (by first | exact Nat.le_refl _ | (simp; done) | omega | (simp; omega)) _)))⟩
  · have hcase : decide (L.length ≤ 40) = false ∧ decide ((L.length : Int) ≤ 40) = false ∨ decide (L.length ≤ 40) = true ∧ decide ((L.length : Int) ≤ 40) = true := by
      by_cases h40 : L.length ≤ 40
      · exact .inr ⟨by simpa using h40, by simp; omega⟩
      · exact .inl ⟨by simpa using h40, by simp; omega⟩
    rcases hcase with ⟨e1, e2⟩ | ⟨e1, e2⟩
    · go_enter Try.func25, Try.ntmps25
      go_wp2_with fail
      refine (SH _ (by (repeat (first | (with_reducible exact SinceOf.refl _) | (with_reducible assumption) | (with_reducible refine SinceOf.alloc ?_ _) | (with_reducible refine SinceOf.drew ?_) | (with_reducible refine SinceOf.drewN ?_ _) | (with_reducible refine SinceOf.later ?_ _) | (with_reducible refine SinceOf.further ?_ _) | (with_reducible refine SinceOf.setCell ?_ (by first | exact Nat.le_refl _ | (simp; done) | omega | (simp; omega)) _))))).calls.mono ?_
      rintro e _ ⟨rfl, x1, rfl⟩
      go_wp2_with fail
      go_returns
      exact ⟨by rw [e2]; simp, by (repeat (first | (with_reducible exact LaterOf.refl _) | (with_reducible refine LaterOf.alloc ?_ _) | (with_reducible refine LaterOf.drew ?_) | (with_reducible refine LaterOf.drewN ?_ _) | (with_reducible refine LaterOf.later ?_ _) | (with_reducible refine LaterOf.setCell ?_ (by first | exact Nat.le_refl _ | (simp; done) | omega | (simp; omega)) _)))⟩
    · go_enter Try.func25, Try.ntmps25
      go_wp2_with fail
      refine (SH _ (by (repeat (first | (with_reducible exact SinceOf.refl _) | (with_reducible assumption) | (with_reducible refine SinceOf.alloc ?_ _) | (with_reducible refine SinceOf.drew ?_) | (with_reducible refine SinceOf.drewN ?_ _) | (with_reducible refine SinceOf.later ?_ _) | (with_reducible refine SinceOf.further ?_ _) | (with_reducible refine SinceOf.setCell ?_ (by first | exact Nat.le_refl _ | (simp; done) | omega | (simp; omega)) _))))).calls.mono ?_
      rintro e _ ⟨rfl, x1, rfl⟩
      go_wp2_with fail
      refine (CJ _ _ (by (repeat (first | (with_reducible exact SinceOf.refl _) | (with_reducible assumption) | (with_reducible refine SinceOf.alloc ?_ _) | (with_reducible refine SinceOf.drew ?_) | (with_reducible refine SinceOf.drewN ?_ _) | (with_reducible refine SinceOf.later ?_ _) | (with_reducible refine SinceOf.further ?_ _) | (with_reducible refine SinceOf.setCell ?_ (by first | exact Nat.le_refl _ | (simp; done) | omega | (simp; omega)) _)))) ⟨by simp [go_sem], by simp [go_sem], by simp [go_sem], inferInstance⟩).calls.mono ?_
      rintro e _ ⟨rfl, x2, rfl⟩
      go_wp2_with fail
      go_returns
      exact ⟨by rw [e2]; simp, by (repeat (first | (with_reducible exact LaterOf.refl _) | (with_reducible refine LaterOf.alloc ?_ _) | (with_reducible refine LaterOf.drew ?_) | (with_reducible refine LaterOf.drewN ?_ _) | (with_reducible refine LaterOf.later ?_ _) | (with_reducible refine LaterOf.setCell ?_ (by first | exact Nat.le_refl _ | (simp; done) | omega | (simp; omega)) _)))⟩
end Go.Proofs.Ytdcncalcncomoaa
/- Layer 52: slots; follows; Contains of ints. -/
namespace Go.Proofs.Ytdcncalcncomoaa
open Go.RowKit Go.Sort
set_option linter.unusedVariables false
attribute [local go_sem ↓] Go.wp_at_zero Go.wp_at_succ

structure SlotR where
  job : Int
  mach : Int
  start : Int
  stop : Int
def encS (x : SlotR) : List Value := [.int .i64 x.job, .int .i64 x.mach, .int .i64 x.start, .int .i64 x.stop]
abbrev slotV (x : SlotR) : Value := .agg #[.int .i64 x.job, .int .i64 x.mach, .int .i64 x.start, .int .i64 x.stop]
abbrev IsSlots (w : World) (A : Option Addr) (c : Nat) (l : List SlotR) : Prop := IsRow encS 4 w A c l
theorem encS_len (p : SlotR) : (encS p).length = 4 := rfl
section
variable {w : World} {g off : Nat} {l : List SlotR}
theorem RowAt.s0 (h : RowAt encS 4 w g off l) (i : Nat) (hi : i < l.length) : w.cell? ⟨g, off + i * 4, none⟩ = some (.int .i64 l[i].job) := h.cells i hi 0 _ rfl
theorem RowAt.s1 (h : RowAt encS 4 w g off l) (i : Nat) (hi : i < l.length) : w.cell? ⟨g, off + i * 4 + 1, none⟩ = some (.int .i64 l[i].mach) := h.cells i hi 1 _ rfl
theorem RowAt.s2 (h : RowAt encS 4 w g off l) (i : Nat) (hi : i < l.length) : w.cell? ⟨g, off + i * 4 + 2, none⟩ = some (.int .i64 l[i].start) := h.cells i hi 2 _ rfl
theorem RowAt.s3 (h : RowAt encS 4 w g off l) (i : Nat) (hi : i < l.length) : w.cell? ⟨g, off + i * 4 + 3, none⟩ = some (.int .i64 l[i].stop) := h.cells i hi 3 _ rfl
end
/-- What Check says of a problem, as far as the walks need it. -/
structure GoodP (s : ShopR) (L : List JobR) : Prop where
  sz : ∀ a (h : a < s.rows.length), s.rows[a].xs.length = s.rows.length
  cls : ∀ j ∈ L, 0 ≤ j.cls ∧ j.cls < s.rows.length
def calAt (s : ShopR) (m : Int) : CalR := s.cals.getD m.toNat ⟨0, none, 0, [], none, 0, []⟩
def jobAt (L : List JobR) (j : Int) : JobR := L.getD j.toNat ⟨none, 0, [], 0, 0, 0, 0, 0⟩
def setupAt (s : ShopR) (L : List JobR) (a b : Int) : Int := get2 s.rows (jobAt L a).cls.toNat (jobAt L b).cls.toNat
def workAt (s : ShopR) (m a b : Int) : Int × Int := workV (calAt s m).P (calAt s m).S (calAt s m).D a b
def followsB (s : ShopR) (L : List JobR) (a b : SlotR) : Bool := !decide (b.start < a.stop) && ((workAt s a.mach a.stop b.start).2 == 0 && decide (setupAt s L a.job b.job ≤ (workAt s a.mach a.stop b.start).1))
theorem calAt_at {s : ShopR} {m : Nat} (h : m < s.cals.length) : calAt s m = s.cals[m] := by
  unfold calAt; rw [List.getD_eq_getElem?_getD, Int.toNat_natCast, List.getElem?_eq_getElem h, Option.getD_some]
theorem jobAt_at {L : List JobR} {m : Nat} (h : m < L.length) : jobAt L m = L[m] := by
  unfold jobAt; rw [List.getD_eq_getElem?_getD, Int.toNat_natCast, List.getElem?_eq_getElem h, Option.getD_some]
set_option maxRecDepth 100000 in
set_option maxHeartbeats 4000000 in
theorem follows_any (s : ShopR) (A : Option Addr) (c : Nat) (L : List JobR) (a b : SlotR) (w : World) (hs : IsShop w s) (h : IsJobs w A c L) (gp : GoodP s L) (hm : 0 ≤ a.mach ∧ a.mach < s.cals.length) (ha : 0 ≤ a.job ∧ a.job < L.length) (hb : 0 ≤ b.job ∧ b.job < L.length) :
    Gives Try.prog 84 #[shopV s, .slice A L.length c, slotV a, slotV b] w (.bool (followsB s L a b)) := by
  apply Gives.ret
  obtain ⟨aj, am, a1, a2⟩ := a
  obtain ⟨bj, bm, b1, b2⟩ := b
  simp only at hm ha hb
  obtain ⟨m, rfl⟩ : ∃ m : Nat, am = m := ⟨am.toNat, by omega⟩
  obtain ⟨ja, rfl⟩ : ∃ m : Nat, aj = m := ⟨aj.toNat, by omega⟩
  obtain ⟨jb, rfl⟩ : ∃ m : Nat, bj = m := ⟨bj.toNat, by omega⟩
  have hm' : m < s.cals.length := by omega
  have ha' : ja < L.length := by omega
  have hb' : jb < L.length := by omega
  have hfb : followsB s L ⟨ja, m, a1, a2⟩ ⟨jb, bm, b1, b2⟩ = (!decide (b1 < a2) && ((workAt s m a2 b1).2 == 0 && decide (setupAt s L ja jb ≤ (workAt s m a2 b1).1))) := rfl
  by_cases hlt : b1 < a2
  · rw [hfb, show decide (b1 < a2) = true from by simpa using hlt]
    clear hs h gp hfb
    go_enter Try.func84, Try.ntmps84
    go_wp2_with fail
    go_returns
    exact ⟨by simp, by (repeat (first | (with_reducible exact LaterOf.refl _) | (with_reducible refine LaterOf.alloc ?_ _) | (with_reducible refine LaterOf.drew ?_) | (with_reducible refine LaterOf.drewN ?_ _) | (with_reducible refine LaterOf.later ?_ _) | (with_reducible refine LaterOf.setCell ?_ (by first | exact Nat.le_refl _ | (simp; done) | omega | (simp; omega)) _)))⟩
  · have hlt' : decide (b1 < a2) = false := by simpa using hlt
    rw [hfb, hlt']
    have hcl := hs.cals.len
    have hrl := hs.rows.len
    have hll := h.len
    have W := fun W hW => work_law (w := W) a2 b1 ((hs.cals.all _ (List.getElem_mem hm')).of hW)
    have e1 : workAt s m a2 b1 = workV s.cals[m].P s.cals[m].S s.cals[m].D a2 b1 := by unfold workAt; rw [calAt_at hm']
    obtain ⟨ca0, ca1⟩ := gp.cls _ (List.getElem_mem ha')
    obtain ⟨cb0, cb1⟩ := gp.cls _ (List.getElem_mem hb')
    have e2 : setupAt s L ja jb = get2 s.rows L[ja].cls.toNat L[jb].cls.toNat := by unfold setupAt; rw [jobAt_at ha', jobAt_at hb']
    obtain ⟨p, hp⟩ : ∃ p : Nat, L[ja].cls = p := ⟨L[ja].cls.toNat, by omega⟩
    obtain ⟨q, hq⟩ : ∃ q : Nat, L[jb].cls = q := ⟨L[jb].cls.toNat, by omega⟩
    have hp' : p < s.rows.length := by omega
    have hq' : q < s.rows.length := by omega
    rw [hp, hq, Int.toNat_natCast, Int.toNat_natCast] at e2
    have hz := gp.sz p hp'
    have hrw := hs.rows.all _ (List.getElem_mem hp')
    obtain ⟨gc, oc, hAc, hrc⟩ := hs.cals.row.at_ (by omega)
    obtain ⟨gj, oj, hAj, hrj⟩ := h.row.at_ (by omega)
    obtain ⟨gr, og, hAr, hrr⟩ := hs.rows.row.at_ (by omega)
    obtain ⟨gx, ox, hAx, hrx⟩ := hrw.1.at_ (by omega)
    have hOc := hrc.there
    have hOj := hrj.there
    have hOr := hrr.there
    have hOx := hrx.there
    have c0 := hrc.k0 m hm'
    have c1 := hrc.k1 m hm'
    have c2 := hrc.k2 m hm'
    have j2 := hrj.j2 ja ha'
    have i2 := hrj.j2 jb hb'
    have r0 := hrr.r0 p hp'
    have x0 := hrx.n0 q (by omega)
    rw [← get2_at hp' (by omega)] at x0
    rw [hp] at j2
    rw [hq] at i2
    rw [hAx, hz] at r0
    rw [e2, e1]
    simp only [pairV] at W
    generalize get2 s.rows p q = st at *
    generalize workV s.cals[m].P s.cals[m].S s.cals[m].D a2 b1 = wk at *
    obtain ⟨w1, w2⟩ := wk
    generalize s.cals[m] = K at *
    generalize s.rows[p].c = cx at *
    obtain ⟨sA, sc, cals, sB, sd, R, most⟩ := s
    simp only at *
    subst hAc hAj hAr
    clear hfb hs h gp hrc hrj hrr hrx hrw hAx e1 e2 hp hq hz
    have hcase : (w2 = 0) ∨ ((w2 == 0) = false) := by
      by_cases h0 : w2 = 0
      · exact .inl h0
      · exact .inr (by simpa using h0)
    rcases hcase with rfl | h0
    all_goals
      go_enter Try.func84, Try.ntmps84
      go_wp2_with fail
      refine region_later (by kernel_rfl) (by kernel_rfl) ?_
      repeat (go_big_quiet_step ((with_reducible refine Gives.later (W _ (by (repeat (first | (with_reducible exact SinceOf.refl _) | (with_reducible assumption) | (with_reducible refine SinceOf.alloc ?_ _) | (with_reducible refine SinceOf.drew ?_) | (with_reducible refine SinceOf.drewN ?_ _) | (with_reducible refine SinceOf.later ?_ _) | (with_reducible refine SinceOf.further ?_ _) | (with_reducible refine SinceOf.setCell ?_ (by first | exact Nat.le_refl _ | (simp; done) | omega | (simp; omega)) _))))))))
      refine wpQuiet_nil ?_
      rintro _ ⟨x1, rfl⟩
      go_wp2_with fail
      refine region_later (by kernel_rfl) (by kernel_rfl) ?_
      repeat (go_big_quiet_step (fail))
      refine wpQuiet_nil ?_
      rintro _ ⟨x2, rfl⟩
      go_wp2_with fail
      go_returns
      exact ⟨by simp [*], by (repeat (first | (with_reducible exact LaterOf.refl _) | (with_reducible refine LaterOf.alloc ?_ _) | (with_reducible refine LaterOf.drew ?_) | (with_reducible refine LaterOf.drewN ?_ _) | (with_reducible refine LaterOf.later ?_ _) | (with_reducible refine LaterOf.setCell ?_ (by first | exact Nat.le_refl _ | (simp; done) | omega | (simp; omega)) _)))⟩
end Go.Proofs.Ytdcncalcncomoaa
