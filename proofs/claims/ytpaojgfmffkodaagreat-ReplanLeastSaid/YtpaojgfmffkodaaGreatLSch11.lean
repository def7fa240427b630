/- Layer 52: Check. -/
import Derived.Test.YtpaojgfmffkodaaGreatLSch4
import Derived.Deep.RegionHeld3
namespace Go.Proofs.YtpaojgfmffkodaaGreat
set_option linter.unusedVariables false
set_option linter.unusedSimpArgs false
open Go.RowKit Go.Sort
attribute [local go_sem ↓] Go.wp_at_zero Go.wp_at_succ
structure ShopAt (w : World) (g : Nat) (s : ShopR) : Prop where
  c0 : w.cell? ⟨g, 0, none⟩ = some (.slice s.A s.cals.length s.c)
  c1 : w.cell? ⟨g, 1, none⟩ = some (.slice s.B s.rows.length s.d)
  c2 : w.cell? ⟨g, 2, none⟩ = some (.int .i64 s.most)
  there : Nonempty (Old w g)
theorem ShopAt.of {w w' : World} {g : Nat} {s : ShopR} (h : ShopAt w g s) (hs : SinceOf w w') : ShopAt w' g s := by
  obtain ⟨z, rfl⟩ := hs
  have := h.there
  exact ⟨by rw [Since.cell]; exact h.c0, by rw [Since.cell]; exact h.c1, by rw [Since.cell]; exact h.c2, inferInstance⟩
theorem checkFn_any (s : ShopR) (j : JobR) (b : Nat) (w : World) (hs : ShopAt w b s) (hj : IsInts w j.A j.c j.ms) (hl : j.ms.length < 4611686018427387904) (hcl : s.cals.length < 4611686018427387904) (hrl : s.rows.length < 4611686018427387904) :
    Gives Tryz.prog 101 #[jobV j, .pointer (some ⟨b, 0, none⟩)] w (.bool (!jobB s j)) := by
  apply Gives.ret
  have J := fun W hW => job_any s j W (hj.of hW) hl hcl hrl
  obtain ⟨c0, c1, c2, hO⟩ := hs
  generalize jobB s j = q at *
  clear hj hl
  go_enter Tryz.func101, Tryz.ntmps101
  go_wp2_with fail
  refine (J _ Sx).calls.mono ?_
  rintro e _ ⟨rfl, x1, rfl⟩
  go_wp2_with fail
  go_returns
  exact ⟨rfl, Lx⟩
set_option maxRecDepth 100000 in
set_option maxHeartbeats 2000000 in
theorem indexJob_any (s : ShopR) (b : Nat) (A : Option Addr) (c : Nat) (L : List JobR) (w : World) (hs : ShopAt w b s) (h : IsJobs w A c L) (hcl : s.cals.length < 4611686018427387904) (hrl : s.rows.length < 4611686018427387904) :
    Calls Tryz.prog 139 #[.slice A L.length c, .func (.func 101) #[] #[.pointer (some ⟨b, 0, none⟩)]] w fun e w' => ∃ r : Int, e = .returned (.int .i64 r) ∧ decide (0 ≤ r) = L.any (fun j => !jobB s j) ∧ LaterOf w w' := by
  have H := Lib.hid (And.intro h hs)
  have hlen := h.len
  clear h hs
  go_enter Tryz.func139, Tryz.ntmps139
  go_wp2_with fail
  go_loopg [8] L.length (fun gas s8 wr => ∃ k : Nat, k ≤ L.length ∧ L.length - k ≤ gas ∧ s8 = .int .i64 k ∧ LaterOf w wr ∧ L.any (fun j => !jobB s j) = (L.drop k).any (fun j => !jobB s j))
  case atStart => exact ⟨0, by omega, by omega, rfl, Lx, by rw [List.drop_zero]⟩
  case round =>
    obtain ⟨k, hk, hgas, rfl, ⟨z, rfl⟩, hany⟩ := hrel
    by_cases hlt : k < L.length
    · have hc := (H.out.1.of (LaterOf.since ⟨z, rfl⟩))
      have hja := hc.all _ (List.getElem_mem hlt)
      have C := checkFn_any s L[k] b z.wd (H.out.2.of (LaterOf.since ⟨z, rfl⟩)) hja.1 hja.2 hcl hrl
      obtain ⟨g, off, rfl, hr⟩ := hc.row.at_ (by omega)
      have hO := hr.there
      have k0 := hr.j0 k hlt
      have k1 := hr.j1 k hlt
      have k2 := hr.j2 k hlt
      have k3 := hr.j3 k hlt
      have k4 := hr.j4 k hlt
      have k5 := hr.j5 k hlt
      rw [any_drop (fun j => !jobB s j) hlt] at hany
      generalize L[k] = x at *
      clear hc hr hja
      cases hx : jobB s x
      · rw [hx] at C hany
        rw [Bool.not_false, Bool.true_or] at hany
        have HA := Lib.hid hany
        clear hany hx
        go_wp2_with fail
        refine C.calls.mono ?_
        rintro e _ ⟨rfl, x1, rfl⟩
        go_wp2_with fail
        go_returns
        exact ⟨k, rfl, by rw [HA.out]; simp, Lx⟩
      · rw [hx] at C hany
        rw [Bool.not_true, Bool.false_or] at hany
        have HA := Lib.hid hany
        clear hany hx
        go_wp2_with fail
        refine C.calls.mono ?_
        rintro e _ ⟨rfl, x1, rfl⟩
        go_wp2_with fail
        go_roundg (L.length - (k + 1))
        case measure => omega
        case rel => exact ⟨k + 1, hlt, Nat.le_refl _, by go_num, Lx, HA.out⟩
    · have hkl : k = L.length := by omega
      rw [hkl, List.drop_length] at hany
      have HA := Lib.hid hany
      clear hany
      go_wp2_with fail
      go_returns
      exact ⟨-1, rfl, by rw [HA.out]; rfl, Lx⟩
theorem containsJob_any (s : ShopR) (b : Nat) (A : Option Addr) (c : Nat) (L : List JobR) (w : World) (hs : ShopAt w b s) (h : IsJobs w A c L) (hcl : s.cals.length < 4611686018427387904) (hrl : s.rows.length < 4611686018427387904) :
    Gives Tryz.prog 100 #[.slice A L.length c, .func (.func 101) #[] #[.pointer (some ⟨b, 0, none⟩)]] w (.bool (L.any (fun j => !jobB s j))) := by
  apply Gives.ret
  have H := Lib.hid (And.intro h hs)
  clear h hs
  go_enter Tryz.func100, Tryz.ntmps100
  go_wp2_with fail
  refine (indexJob_any s b A c L _ H.out.2 H.out.1 hcl hrl).mono ?_
  rintro e _ ⟨r, rfl, hr, ⟨z, rfl⟩⟩
  have HA := Lib.hid hr
  clear hr
  go_wp2_with fail
  go_returns
  exact ⟨by show Ending.returned (.bool (decide (0 ≤ r))) = _; rw [HA.out], Lx⟩
def checkS (s : ShopR) (L : List JobR) : Bool := shopB s && (decide ((L.length : Int) ≤ 40) && !L.any (fun j => !jobB s j))
set_option maxHeartbeats 1000000 in
theorem check_any (s : ShopR) (A : Option Addr) (c : Nat) (L : List JobR) (w : World) (hs : IsShop w s) (h : IsJobs w A c L) : Gives Tryz.prog 62 #[shopV s, .slice A L.length c] w (.bool (checkS s L)) := by
  apply Gives.ret
  have SH := fun W hW => shop_any s W (hs.of hW)
  have hcl := hs.cals.len
  have hrl := hs.rows.len
  have hlen := h.len
  have CJ := fun b W (hW : SinceOf w W) hb => containsJob_any s b A c L W hb (h.of hW) hcl hrl
  have e : checkS s L = (shopB s && (decide ((L.length : Int) ≤ 40) && !L.any (fun j => !jobB s j))) := rfl
  rw [e]
  clear e
  generalize shopB s = q1 at *
  generalize L.any (fun j => !jobB s j) = q3 at *
  clear hs h
  cases q1
  · go_enter Tryz.func62, Tryz.ntmps62
    go_wp2_with fail
    refine (SH _ Sx).calls.mono ?_
    rintro e _ ⟨rfl, x1, rfl⟩
    go_wp2_with fail
    go_returns
    exact ⟨by simp, Lx⟩
  · have hcase : decide (L.length ≤ 40) = false ∧ decide ((L.length : Int) ≤ 40) = false ∨ decide (L.length ≤ 40) = true ∧ decide ((L.length : Int) ≤ 40) = true := by
      by_cases h40 : L.length ≤ 40
      · exact .inr ⟨by simpa using h40, by simp; omega⟩
      · exact .inl ⟨by simpa using h40, by simp; omega⟩
    rcases hcase with ⟨e1, e2⟩ | ⟨e1, e2⟩
    · go_enter Tryz.func62, Tryz.ntmps62
      go_wp2_with fail
      refine (SH _ Sx).calls.mono ?_
      rintro e _ ⟨rfl, x1, rfl⟩
      go_wp2_with fail
      go_returns
      exact ⟨by rw [e2]; simp, Lx⟩
    · go_enter Tryz.func62, Tryz.ntmps62
      go_wp2_with fail
      refine (SH _ Sx).calls.mono ?_
      rintro e _ ⟨rfl, x1, rfl⟩
      go_wp2_with fail
      refine (CJ _ _ Sx ⟨by simp [go_sem], by simp [go_sem], by simp [go_sem], inferInstance⟩).calls.mono ?_
      rintro e _ ⟨rfl, x2, rfl⟩
      go_wp2_with fail
      go_returns
      exact ⟨by rw [e2]; simp, Lx⟩
end Go.Proofs.YtpaojgfmffkodaaGreat
/- Layer 52: slots; follows; Contains of ints. -/
namespace Go.Proofs.YtpaojgfmffkodaaGreat
set_option linter.unusedVariables false
set_option linter.unusedSimpArgs false
open Go.RowKit Go.Sort
attribute [local go_sem ↓] Go.wp_at_zero Go.wp_at_succ
structure SlotR where
  job : Int
  mach : Int
  start : Int
  stop : Int
def encS (x : SlotR) : List Value := [.int .i64 x.job, .int .i64 x.mach, .int .i64 x.start, .int .i64 x.stop]
abbrev slotV (x : SlotR) : Value := .agg #[.int .i64 x.job, .int .i64 x.mach, .int .i64 x.start, .int .i64 x.stop]
abbrev IsSlots (w : World) (A : Option Addr) (c : Nat) (l : List SlotR) : Prop := IsRow encS 4 w A c l
theorem encS_len (p : SlotR) : (encS p).length = 4 := rfl
section
variable {w : World} {g off : Nat} {l : List SlotR}
theorem RowAt.s0 (h : RowAt encS 4 w g off l) (i : Nat) (hi : i < l.length) : w.cell? ⟨g, off + i * 4, none⟩ = some (.int .i64 l[i].job) := h.cells i hi 0 _ rfl
theorem RowAt.s1 (h : RowAt encS 4 w g off l) (i : Nat) (hi : i < l.length) : w.cell? ⟨g, off + i * 4 + 1, none⟩ = some (.int .i64 l[i].mach) := h.cells i hi 1 _ rfl
theorem RowAt.s2 (h : RowAt encS 4 w g off l) (i : Nat) (hi : i < l.length) : w.cell? ⟨g, off + i * 4 + 2, none⟩ = some (.int .i64 l[i].start) := h.cells i hi 2 _ rfl
theorem RowAt.s3 (h : RowAt encS 4 w g off l) (i : Nat) (hi : i < l.length) : w.cell? ⟨g, off + i * 4 + 3, none⟩ = some (.int .i64 l[i].stop) := h.cells i hi 3 _ rfl
end
structure GoodP (s : ShopR) (L : List JobR) : Prop where
  sz : ∀ a (h : a < s.rows.length), s.rows[a].xs.length = s.rows.length
  cls : ∀ j ∈ L, 0 ≤ j.cls ∧ j.cls < s.rows.length
def calAt (s : ShopR) (m : Int) : CalR := s.cals.getD m.toNat ⟨0, none, 0, [], none, 0, []⟩
def jobAt (L : List JobR) (j : Int) : JobR := L.getD j.toNat ⟨none, 0, [], 0, 0, 0, 0, 0⟩
def setupAt (s : ShopR) (L : List JobR) (a b : Int) : Int := get2 s.rows (jobAt L a).cls.toNat (jobAt L b).cls.toNat
def workAt (s : ShopR) (m a b : Int) : Int × Int := workV (calAt s m).P (calAt s m).S (calAt s m).D a b
def followsB (s : ShopR) (L : List JobR) (a b : SlotR) : Bool := !decide (b.start < a.stop) && ((workAt s a.mach a.stop b.start).2 == 0 && decide (setupAt s L a.job b.job ≤ (workAt s a.mach a.stop b.start).1))
theorem calAt_at {s : ShopR} {m : Nat} (h : m < s.cals.length) : calAt s m = s.cals[m] := by
  unfold calAt; rw [List.getD_eq_getElem?_getD, Int.toNat_natCast, List.getElem?_eq_getElem h, Option.getD_some]
theorem jobAt_at {L : List JobR} {m : Nat} (h : m < L.length) : jobAt L m = L[m] := by
  unfold jobAt; rw [List.getD_eq_getElem?_getD, Int.toNat_natCast, List.getElem?_eq_getElem h, Option.getD_some]
set_option maxRecDepth 100000 in
set_option maxHeartbeats 4000000 in
theorem follows_any (s : ShopR) (A : Option Addr) (c : Nat) (L : List JobR) (a b : SlotR) (w : World) (hs : IsShop w s) (h : IsJobs w A c L) (gp : GoodP s L) (hm : 0 ≤ a.mach ∧ a.mach < s.cals.length) (ha : 0 ≤ a.job ∧ a.job < L.length) (hb : 0 ≤ b.job ∧ b.job < L.length) :
    Gives Tryz.prog 143 #[shopV s, .slice A L.length c, slotV a, slotV b] w (.bool (followsB s L a b)) := by
  apply Gives.ret
  obtain ⟨aj, am, a1, a2⟩ := a
  obtain ⟨bj, bm, b1, b2⟩ := b
  simp only at hm ha hb
  obtain ⟨m, rfl⟩ : ∃ m : Nat, am = m := ⟨am.toNat, by omega⟩
  obtain ⟨ja, rfl⟩ : ∃ m : Nat, aj = m := ⟨aj.toNat, by omega⟩
  obtain ⟨jb, rfl⟩ : ∃ m : Nat, bj = m := ⟨bj.toNat, by omega⟩
  have hm' : m < s.cals.length := by omega
  have ha' : ja < L.length := by omega
  have hb' : jb < L.length := by omega
  have hfb : followsB s L ⟨ja, m, a1, a2⟩ ⟨jb, bm, b1, b2⟩ = (!decide (b1 < a2) && ((workAt s m a2 b1).2 == 0 && decide (setupAt s L ja jb ≤ (workAt s m a2 b1).1))) := rfl
  by_cases hlt : b1 < a2
  · rw [hfb, show decide (b1 < a2) = true from by simpa using hlt]
    clear hs h gp hfb
    go_enter Tryz.func143, Tryz.ntmps143
    go_wp2_with fail
    go_returns
    exact ⟨by simp, Lx⟩
  · have hlt' : decide (b1 < a2) = false := by simpa using hlt
    rw [hfb, hlt']
    have hcl := hs.cals.len
    have hrl := hs.rows.len
    have hll := h.len
    have W := fun W hW => work_law (w := W) a2 b1 ((hs.cals.all _ (List.getElem_mem hm')).of hW)
    have e1 : workAt s m a2 b1 = workV s.cals[m].P s.cals[m].S s.cals[m].D a2 b1 := by unfold workAt; rw [calAt_at hm']
    obtain ⟨ca0, ca1⟩ := gp.cls _ (List.getElem_mem ha')
    obtain ⟨cb0, cb1⟩ := gp.cls _ (List.getElem_mem hb')
    have e2 : setupAt s L ja jb = get2 s.rows L[ja].cls.toNat L[jb].cls.toNat := by unfold setupAt; rw [jobAt_at ha', jobAt_at hb']
    obtain ⟨p, hp⟩ : ∃ p : Nat, L[ja].cls = p := ⟨L[ja].cls.toNat, by omega⟩
    obtain ⟨q, hq⟩ : ∃ q : Nat, L[jb].cls = q := ⟨L[jb].cls.toNat, by omega⟩
    have hp' : p < s.rows.length := by omega
    have hq' : q < s.rows.length := by omega
    rw [hp, hq, Int.toNat_natCast, Int.toNat_natCast] at e2
    have hz := gp.sz p hp'
    have hrw := hs.rows.all _ (List.getElem_mem hp')
    obtain ⟨gc, oc, hAc, hrc⟩ := hs.cals.row.at_ (by omega)
    obtain ⟨gj, oj, hAj, hrj⟩ := h.row.at_ (by omega)
    obtain ⟨gr, og, hAr, hrr⟩ := hs.rows.row.at_ (by omega)
    obtain ⟨gx, ox, hAx, hrx⟩ := hrw.1.at_ (by omega)
    have hOc := hrc.there
    have hOj := hrj.there
    have hOr := hrr.there
    have hOx := hrx.there
    have c0 := hrc.k0 m hm'
    have c1 := hrc.k1 m hm'
    have c2 := hrc.k2 m hm'
    have j2 := hrj.j2 ja ha'
    have i2 := hrj.j2 jb hb'
    have r0 := hrr.r0 p hp'
    have x0 := hrx.n0 q (by omega)
    rw [← get2_at hp' (by omega)] at x0
    rw [hp] at j2
    rw [hq] at i2
    rw [hAx, hz] at r0
    rw [e2, e1]
    simp only [pairV] at W
    generalize get2 s.rows p q = st at *
    generalize workV s.cals[m].P s.cals[m].S s.cals[m].D a2 b1 = wk at *
    obtain ⟨w1, w2⟩ := wk
    generalize s.cals[m] = K at *
    generalize s.rows[p].c = cx at *
    obtain ⟨sA, sc, cals, sB, sd, R, most⟩ := s
    simp only at *
    subst hAc hAj hAr
    clear hfb hs h gp hrc hrj hrr hrx hrw hAx e1 e2 hp hq hz
    have hcase : (w2 = 0) ∨ ((w2 == 0) = false) := by
      by_cases h0 : w2 = 0
      · exact .inl h0
      · exact .inr (by simpa using h0)
    rcases hcase with rfl | h0
    all_goals
      go_enter Tryz.func143, Tryz.ntmps143
      go_wp2_with fail
      refine region_later (by kernel_rfl) (by kernel_rfl) ?_
      repeat (go_big_quiet_step ((with_reducible refine Gives.later (W _ Sx))))
      refine wpQuiet_nil ?_
      rintro _ ⟨x1, rfl⟩
      go_wp2_with fail
      refine region_later (by kernel_rfl) (by kernel_rfl) ?_
      repeat (go_big_quiet_step (fail))
      refine wpQuiet_nil ?_
      rintro _ ⟨x2, rfl⟩
      go_wp2_with fail
      go_returns
      exact ⟨by simp [*], Lx⟩
end Go.Proofs.YtpaojgfmffkodaaGreat
/- Layer 52: the closures over slots, IndexFunc, ContainsFunc; Contains of ints. -/
namespace Go.Proofs.YtpaojgfmffkodaaGreat
set_option linter.unusedVariables false
set_option linter.unusedSimpArgs false
open Go.RowKit Go.Sort
attribute [local go_sem ↓] Go.wp_at_zero Go.wp_at_succ
set_option maxRecDepth 100000 in
set_option maxHeartbeats 2000000 in
theorem indexSame_any (v1 : Value) (p : SlotR → Bool) (A : Option Addr) (c : Nat) (l : List SlotR) (w : World) (h : IsSlots w A c l) (hlen : l.length < 4611686018427387904) (hf : ∀ W, SinceOf w W → ∀ y ∈ l, Gives Tryz.prog 140 #[slotV y, v1] W (.bool (p y))) :
    Calls Tryz.prog 75 #[.slice A l.length c, .func (.func 140) #[] #[v1]] w fun e w' => ∃ r : Int, e = .returned (.int .i64 r) ∧ decide (0 ≤ r) = l.any p ∧ LaterOf w w' := by
  have H := Lib.hid h
  clear h
  go_enter Tryz.func75, Tryz.ntmps75
  go_wp2_with fail
  go_loopg [8] l.length (fun gas s8 wr => ∃ k : Nat, k ≤ l.length ∧ l.length - k ≤ gas ∧ s8 = .int .i64 k ∧ LaterOf w wr ∧ l.any p = (l.drop k).any p)
  case atStart => exact ⟨0, by omega, by omega, rfl, Lx, by rw [List.drop_zero]⟩
  case round =>
    obtain ⟨k, hk, hgas, rfl, ⟨z, rfl⟩, hany⟩ := hrel
    by_cases hlt : k < l.length
    · have hc := (H.out.of (LaterOf.since ⟨z, rfl⟩))
      have C := hf z.wd (LaterOf.since ⟨z, rfl⟩) _ (List.getElem_mem hlt)
      obtain ⟨g, off, rfl, hr⟩ := hc.at_ (by omega)
      have hO := hr.there
      have k0 := hr.s0 k hlt
      have k1 := hr.s1 k hlt
      have k2 := hr.s2 k hlt
      have k3 := hr.s3 k hlt
      rw [any_drop p hlt] at hany
      generalize l[k] = x at *
      clear hc hr
      cases hx : p x
      · rw [hx] at C hany
        rw [Bool.false_or] at hany
        have HA := Lib.hid hany
        clear hany hx
        go_wp2_with fail
        refine C.calls.mono ?_
        rintro e _ ⟨rfl, x1, rfl⟩
        go_wp2_with fail
        go_roundg (l.length - (k + 1))
        case measure => omega
        case rel => exact ⟨k + 1, hlt, Nat.le_refl _, by go_num, Lx, HA.out⟩
      · rw [hx] at C hany
        rw [Bool.true_or] at hany
        have HA := Lib.hid hany
        clear hany hx
        go_wp2_with fail
        refine C.calls.mono ?_
        rintro e _ ⟨rfl, x1, rfl⟩
        go_wp2_with fail
        go_returns
        exact ⟨k, rfl, by rw [HA.out]; simp, Lx⟩
    · have hkl : k = l.length := by omega
      rw [hkl, List.drop_length] at hany
      have HA := Lib.hid hany
      clear hany
      go_wp2_with fail
      go_returns
      exact ⟨-1, rfl, by rw [HA.out]; rfl, Lx⟩
theorem containsSame_any (v1 : Value) (p : SlotR → Bool) (A : Option Addr) (c : Nat) (l : List SlotR) (w : World) (h : IsSlots w A c l) (hlen : l.length < 4611686018427387904) (hf : ∀ W, SinceOf w W → ∀ y ∈ l, Gives Tryz.prog 140 #[slotV y, v1] W (.bool (p y))) :
    Gives Tryz.prog 68 #[.slice A l.length c, .func (.func 140) #[] #[v1]] w (.bool (l.any p)) := by
  apply Gives.ret
  have H := Lib.hid (And.intro h hf)
  clear h hf
  go_enter Tryz.func68, Tryz.ntmps68
  go_wp2_with fail
  refine (indexSame_any v1 p A c l _ H.out.1 hlen H.out.2).mono ?_
  rintro e _ ⟨r, rfl, hr, ⟨z, rfl⟩⟩
  have HA := Lib.hid hr
  clear hr
  go_wp2_with fail
  go_returns
  exact ⟨by show Ending.returned (.bool (decide (0 ≤ r))) = _; rw [HA.out], Lx⟩
set_option maxRecDepth 100000 in
set_option maxHeartbeats 2000000 in
theorem indexClash_any (v1 v2 v3 : Value) (p : SlotR → Bool) (A : Option Addr) (c : Nat) (l : List SlotR) (w : World) (h : IsSlots w A c l) (hlen : l.length < 4611686018427387904) (hf : ∀ W, SinceOf w W → ∀ y ∈ l, Gives Tryz.prog 142 #[slotV y, v1, v2, v3] W (.bool (p y))) :
    Calls Tryz.prog 75 #[.slice A l.length c, .func (.func 142) #[] #[v1, v2, v3]] w fun e w' => ∃ r : Int, e = .returned (.int .i64 r) ∧ decide (0 ≤ r) = l.any p ∧ LaterOf w w' := by
  have H := Lib.hid h
  clear h
  go_enter Tryz.func75, Tryz.ntmps75
  go_wp2_with fail
  go_loopg [8] l.length (fun gas s8 wr => ∃ k : Nat, k ≤ l.length ∧ l.length - k ≤ gas ∧ s8 = .int .i64 k ∧ LaterOf w wr ∧ l.any p = (l.drop k).any p)
  case atStart => exact ⟨0, by omega, by omega, rfl, Lx, by rw [List.drop_zero]⟩
  case round =>
    obtain ⟨k, hk, hgas, rfl, ⟨z, rfl⟩, hany⟩ := hrel
    by_cases hlt : k < l.length
    · have hc := (H.out.of (LaterOf.since ⟨z, rfl⟩))
      have C := hf z.wd (LaterOf.since ⟨z, rfl⟩) _ (List.getElem_mem hlt)
      obtain ⟨g, off, rfl, hr⟩ := hc.at_ (by omega)
      have hO := hr.there
      have k0 := hr.s0 k hlt
      have k1 := hr.s1 k hlt
      have k2 := hr.s2 k hlt
      have k3 := hr.s3 k hlt
      rw [any_drop p hlt] at hany
      generalize l[k] = x at *
      clear hc hr
      cases hx : p x
      · rw [hx] at C hany
        rw [Bool.false_or] at hany
        have HA := Lib.hid hany
        clear hany hx
        go_wp2_with fail
        refine C.calls.mono ?_
        rintro e _ ⟨rfl, x1, rfl⟩
        go_wp2_with fail
        go_roundg (l.length - (k + 1))
        case measure => omega
        case rel => exact ⟨k + 1, hlt, Nat.le_refl _, by go_num, Lx, HA.out⟩
      · rw [hx] at C hany
        rw [Bool.true_or] at hany
        have HA := Lib.hid hany
        clear hany hx
        go_wp2_with fail
        refine C.calls.mono ?_
        rintro e _ ⟨rfl, x1, rfl⟩
        go_wp2_with fail
        go_returns
        exact ⟨k, rfl, by rw [HA.out]; simp, Lx⟩
    · have hkl : k = l.length := by omega
      rw [hkl, List.drop_length] at hany
      have HA := Lib.hid hany
      clear hany
      go_wp2_with fail
      go_returns
      exact ⟨-1, rfl, by rw [HA.out]; rfl, Lx⟩
theorem containsClash_any (v1 v2 v3 : Value) (p : SlotR → Bool) (A : Option Addr) (c : Nat) (l : List SlotR) (w : World) (h : IsSlots w A c l) (hlen : l.length < 4611686018427387904) (hf : ∀ W, SinceOf w W → ∀ y ∈ l, Gives Tryz.prog 142 #[slotV y, v1, v2, v3] W (.bool (p y))) :
    Gives Tryz.prog 68 #[.slice A l.length c, .func (.func 142) #[] #[v1, v2, v3]] w (.bool (l.any p)) := by
  apply Gives.ret
  have H := Lib.hid (And.intro h hf)
  clear h hf
  go_enter Tryz.func68, Tryz.ntmps68
  go_wp2_with fail
  refine (indexClash_any v1 v2 v3 p A c l _ H.out.1 hlen H.out.2).mono ?_
  rintro e _ ⟨r, rfl, hr, ⟨z, rfl⟩⟩
  have HA := Lib.hid hr
  clear hr
  go_wp2_with fail
  go_returns
  exact ⟨by show Ending.returned (.bool (decide (0 ≤ r))) = _; rw [HA.out], Lx⟩
set_option maxRecDepth 100000 in
set_option maxHeartbeats 2000000 in
theorem indexAsked_any (v1 : Value) (p : SlotR → Bool) (A : Option Addr) (c : Nat) (l : List SlotR) (w : World) (h : IsSlots w A c l) (hlen : l.length < 4611686018427387904) (hf : ∀ W, SinceOf w W → ∀ y ∈ l, Gives Tryz.prog 125 #[slotV y, v1] W (.bool (p y))) :
    Calls Tryz.prog 75 #[.slice A l.length c, .func (.func 125) #[] #[v1]] w fun e w' => ∃ r : Int, e = .returned (.int .i64 r) ∧ decide (0 ≤ r) = l.any p ∧ LaterOf w w' := by
  have H := Lib.hid h
  clear h
  go_enter Tryz.func75, Tryz.ntmps75
  go_wp2_with fail
  go_loopg [8] l.length (fun gas s8 wr => ∃ k : Nat, k ≤ l.length ∧ l.length - k ≤ gas ∧ s8 = .int .i64 k ∧ LaterOf w wr ∧ l.any p = (l.drop k).any p)
  case atStart => exact ⟨0, by omega, by omega, rfl, Lx, by rw [List.drop_zero]⟩
  case round =>
    obtain ⟨k, hk, hgas, rfl, ⟨z, rfl⟩, hany⟩ := hrel
    by_cases hlt : k < l.length
    · have hc := (H.out.of (LaterOf.since ⟨z, rfl⟩))
      have C := hf z.wd (LaterOf.since ⟨z, rfl⟩) _ (List.getElem_mem hlt)
      obtain ⟨g, off, rfl, hr⟩ := hc.at_ (by omega)
      have hO := hr.there
      have k0 := hr.s0 k hlt
      have k1 := hr.s1 k hlt
      have k2 := hr.s2 k hlt
      have k3 := hr.s3 k hlt
      rw [any_drop p hlt] at hany
      generalize l[k] = x at *
      clear hc hr
      cases hx : p x
      · rw [hx] at C hany
        rw [Bool.false_or] at hany
        have HA := Lib.hid hany
        clear hany hx
        go_wp2_with fail
        refine C.calls.mono ?_
        rintro e _ ⟨rfl, x1, rfl⟩
        go_wp2_with fail
        go_roundg (l.length - (k + 1))
        case measure => omega
        case rel => exact ⟨k + 1, hlt, Nat.le_refl _, by go_num, Lx, HA.out⟩
      · rw [hx] at C hany
        rw [Bool.true_or] at hany
        have HA := Lib.hid hany
        clear hany hx
        go_wp2_with fail
        refine C.calls.mono ?_
        rintro e _ ⟨rfl, x1, rfl⟩
        go_wp2_with fail
        go_returns
        exact ⟨k, rfl, by rw [HA.out]; simp, Lx⟩
    · have hkl : k = l.length := by omega
      rw [hkl, List.drop_length] at hany
      have HA := Lib.hid hany
      clear hany
      go_wp2_with fail
      go_returns
      exact ⟨-1, rfl, by rw [HA.out]; rfl, Lx⟩
theorem containsAsked_any (v1 : Value) (p : SlotR → Bool) (A : Option Addr) (c : Nat) (l : List SlotR) (w : World) (h : IsSlots w A c l) (hlen : l.length < 4611686018427387904) (hf : ∀ W, SinceOf w W → ∀ y ∈ l, Gives Tryz.prog 125 #[slotV y, v1] W (.bool (p y))) :
    Gives Tryz.prog 68 #[.slice A l.length c, .func (.func 125) #[] #[v1]] w (.bool (l.any p)) := by
  apply Gives.ret
  have H := Lib.hid (And.intro h hf)
  clear h hf
  go_enter Tryz.func68, Tryz.ntmps68
  go_wp2_with fail
  refine (indexAsked_any v1 p A c l _ H.out.1 hlen H.out.2).mono ?_
  rintro e _ ⟨r, rfl, hr, ⟨z, rfl⟩⟩
  have HA := Lib.hid hr
  clear hr
  go_wp2_with fail
  go_returns
  exact ⟨by show Ending.returned (.bool (decide (0 ≤ r))) = _; rw [HA.out], Lx⟩
structure SlotAt (w : World) (g : Nat) (x : SlotR) : Prop where
  c0 : w.cell? ⟨g, 0, none⟩ = some (.int .i64 x.job)
  c1 : w.cell? ⟨g, 1, none⟩ = some (.int .i64 x.mach)
  c2 : w.cell? ⟨g, 2, none⟩ = some (.int .i64 x.start)
  c3 : w.cell? ⟨g, 3, none⟩ = some (.int .i64 x.stop)
  there : Nonempty (Old w g)
theorem SlotAt.of {w w' : World} {g : Nat} {s : SlotR} (h : SlotAt w g s) (hs : SinceOf w w') : SlotAt w' g s := by
  obtain ⟨z, rfl⟩ := hs
  have := h.there
  exact ⟨by rw [Since.cell]; exact h.c0, by rw [Since.cell]; exact h.c1, by rw [Since.cell]; exact h.c2, by rw [Since.cell]; exact h.c3, inferInstance⟩
theorem sameFn_any (x y : SlotR) (b : Nat) (w : World) (h : SlotAt w b x) : Gives Tryz.prog 140 #[slotV y, .pointer (some ⟨b, 0, none⟩)] w (.bool (y.job == x.job)) := by
  apply Gives.ret
  obtain ⟨c0, c1, c2, c3, hO⟩ := h
  go_enter Tryz.func140, Tryz.ntmps140
  go_wp2_with fail
  go_returns
  exact ⟨rfl, Lx⟩
theorem askedFn_any (j : Int) (y : SlotR) (b : Nat) (w : World) (h : w.cell? ⟨b, 0, none⟩ = some (.int .i64 j)) (hO : Nonempty (Old w b)) : Gives Tryz.prog 125 #[slotV y, .pointer (some ⟨b, 0, none⟩)] w (.bool (y.job == j)) := by
  apply Gives.ret
  go_enter Tryz.func125, Tryz.ntmps125
  go_wp2_with fail
  go_returns
  exact ⟨rfl, Lx⟩
def clashB (s : ShopR) (L : List JobR) (x y : SlotR) : Bool := (y.mach == x.mach) && (!followsB s L y x && !followsB s L x y)
set_option maxRecDepth 100000 in
set_option maxHeartbeats 1000000 in
theorem clashFn_any (s : ShopR) (A : Option Addr) (c : Nat) (L : List JobR) (x y : SlotR) (b1 b2 b3 : Nat) (w : World) (hs : IsShop w s) (h : IsJobs w A c L) (gp : GoodP s L) (hx : 0 ≤ x.job ∧ x.job < L.length) (hxm : 0 ≤ x.mach ∧ x.mach < s.cals.length) (hy : 0 ≤ y.job ∧ y.job < L.length)
    (g1 : SlotAt w b1 x) (g2 : ShopAt w b2 s) (g3 : w.cell? ⟨b3, 0, none⟩ = some (.slice A L.length c)) (hO3 : Nonempty (Old w b3)) :
    Gives Tryz.prog 142 #[slotV y, .pointer (some ⟨b1, 0, none⟩), .pointer (some ⟨b2, 0, none⟩), .pointer (some ⟨b3, 0, none⟩)] w (.bool (clashB s L x y)) := by
  apply Gives.ret
  have e : clashB s L x y = ((y.mach == x.mach) && (!followsB s L y x && !followsB s L x y)) := rfl
  rw [e]
  clear e
  by_cases hm : y.mach = x.mach
  · have F1 := fun W hW => follows_any s A c L y x W (hs.of hW) (h.of hW) gp (by rw [hm]; exact hxm) hy hx
    have F2 := fun W hW => follows_any s A c L x y W (hs.of hW) (h.of hW) gp hxm hx hy
    have t : (y.mach == x.mach) = true := by simpa using hm
    generalize followsB s L y x = q1 at *
    generalize followsB s L x y = q2 at *
    obtain ⟨c0, c1, c2, c3, hO1⟩ := g1
    obtain ⟨d0, d1, d2, hO2⟩ := g2
    clear hs h gp hm
    rw [t]
    cases q1
    · go_enter Tryz.func142, Tryz.ntmps142
      go_wp2_with fail
      refine (F1 _ Sx).calls.mono ?_
      rintro e _ ⟨rfl, x1, rfl⟩
      go_wp2_with fail
      refine (F2 _ Sx).calls.mono ?_
      rintro e _ ⟨rfl, x2, rfl⟩
      go_wp2_with fail
      go_returns
      exact ⟨by simp, Lx⟩
    · go_enter Tryz.func142, Tryz.ntmps142
      go_wp2_with fail
      refine (F1 _ Sx).calls.mono ?_
      rintro e _ ⟨rfl, x1, rfl⟩
      go_wp2_with fail
      go_returns
      exact ⟨by simp, Lx⟩
  · have t : (y.mach == x.mach) = false := by simpa using hm
    obtain ⟨c0, c1, c2, c3, hO1⟩ := g1
    clear hs h gp g2 g3 hm
    go_enter Tryz.func142, Tryz.ntmps142
    go_wp2_with fail
    go_returns
    exact ⟨by rw [t]; simp, Lx⟩
theorem containsInt_any (A : Option Addr) (c : Nat) (l : List Int) (x : Int) (w : World) (h : IsInts w A c l) (hlen : l.length < 4611686018427387904) : Gives Tryz.prog 52 #[.slice A l.length c, .int .i64 x] w (.bool (l.any (fun y => x == y))) := by
  apply Gives.ret
  have H := Lib.hid h
  clear h
  have K : Calls Tryz.prog 86 #[.slice A l.length c, .int .i64 x] w fun e w' => ∃ r : Int, e = .returned (.int .i64 r) ∧ decide (0 ≤ r) = l.any (fun y => x == y) ∧ LaterOf w w' := by
    go_enter Tryz.func86, Tryz.ntmps86
    go_wp2_with fail
    go_loopg [8] l.length (fun gas s8 wr => ∃ k : Nat, k ≤ l.length ∧ l.length - k ≤ gas ∧ s8 = .int .i64 k ∧ w = wr ∧ l.any (fun y => x == y) = (l.drop k).any (fun y => x == y))
    case atStart => exact ⟨0, by omega, by omega, rfl, rfl, by rw [List.drop_zero]⟩
    case round =>
      obtain ⟨k, hk, hgas, rfl, rfl, hany⟩ := hrel
      by_cases hlt : k < l.length
      · have hc := H.out
        obtain ⟨g, off, rfl, hr⟩ := hc.at_ (by omega)
        have hO := hr.there
        have k0 := hr.n0 k hlt
        rw [any_drop (fun y => x == y) hlt] at hany
        generalize l[k] = y at *
        clear hc hr
        cases hx : (x == y)
        · rw [hx, Bool.false_or] at hany
          have HA := Lib.hid hany
          clear hany
          go_wp2_with fail
          go_roundg (l.length - (k + 1))
          case measure => omega
          case rel => exact ⟨k + 1, hlt, Nat.le_refl _, by go_num, rfl, HA.out⟩
        · rw [hx, Bool.true_or] at hany
          have HA := Lib.hid hany
          clear hany
          go_wp2_with fail
          go_returns
          exact ⟨k, rfl, by rw [HA.out]; simp, Lx⟩
      · have hkl : k = l.length := by omega
        rw [hkl, List.drop_length] at hany
        have HA := Lib.hid hany
        clear hany
        go_wp2_with fail
        go_returns
        exact ⟨-1, rfl, by rw [HA.out]; rfl, Lx⟩
  go_enter Tryz.func52, Tryz.ntmps52
  go_wp2_with fail
  refine K.mono ?_
  rintro e _ ⟨r, rfl, hr, ⟨z, rfl⟩⟩
  have HA := Lib.hid hr
  clear hr
  go_wp2_with fail
  go_returns
  exact ⟨by show Ending.returned (.bool (decide (0 ≤ r))) = _; rw [HA.out], Lx⟩
end Go.Proofs.YtpaojgfmffkodaaGreat
/- Layer 52: slot. -/
namespace Go.Proofs.YtpaojgfmffkodaaGreat
set_option linter.unusedVariables false
set_option linter.unusedSimpArgs false
open Go.RowKit Go.Sort
attribute [local go_sem ↓] Go.wp_at_zero Go.wp_at_succ
structure JobAt (w : World) (g : Nat) (j : JobR) : Prop where
  c0 : w.cell? ⟨g, 0, none⟩ = some (.slice j.A j.ms.length j.c)
  c1 : w.cell? ⟨g, 1, none⟩ = some (.int .i64 j.dur)
  c2 : w.cell? ⟨g, 2, none⟩ = some (.int .i64 j.cls)
  c3 : w.cell? ⟨g, 3, none⟩ = some (.int .i64 j.rel)
  c4 : w.cell? ⟨g, 4, none⟩ = some (.int .i64 j.due)
  c5 : w.cell? ⟨g, 5, none⟩ = some (.int .i64 j.ord)
  there : Nonempty (Old w g)
structure CalOn (w : World) (g : Nat) (k : CalR) : Prop where
  c0 : w.cell? ⟨g, 0, none⟩ = some (.int .i64 k.P)
  c1 : w.cell? ⟨g, 1, none⟩ = some (.slice k.A k.S.length k.c)
  c2 : w.cell? ⟨g, 2, none⟩ = some (.slice k.B k.D.length k.d)
  there : Nonempty (Old w g)
def nameB (s : ShopR) (L : List JobR) (x : SlotR) : Bool := (decide (0 ≤ x.job) && decide (x.job ≤ (L.length : Int) - 1)) && (decide (0 ≤ x.mach) && decide (x.mach ≤ (s.cals.length : Int) - 1))
def finishAt (s : ShopR) (m t k : Int) : Int × Int := finishV (calAt s m).P (calAt s m).S (calAt s m).D t k
def openAt (s : ShopR) (m t : Int) : Bool := openV (calAt s m).P (calAt s m).S (calAt s m).D t
def shiftB (s : ShopR) (L : List JobR) (x : SlotR) : Bool := openAt s x.mach x.start && ((finishAt s x.mach x.start (jobAt L x.job).dur).2 == 0 && (finishAt s x.mach x.start (jobAt L x.job).dur).1 == x.stop)
def slotE (s : ShopR) (L : List JobR) (ahead : List SlotR) (x : SlotR) : Int :=
  if nameB s L x = false then 6 else if ahead.any (fun y => y.job == x.job) = true then 7 else if (jobAt L x.job).ms.any (fun m => x.mach == m) = false then 25 else if x.start < (jobAt L x.job).rel then 22 else
  if shiftB s L x = false then 26 else if ahead.any (clashB s L x) = true then 27 else 0
def NamedS (s : ShopR) (L : List JobR) (l : List SlotR) : Prop := ∀ y ∈ l, nameB s L y = true
theorem nameB_iff {s : ShopR} {L : List JobR} {x : SlotR} : nameB s L x = true ↔ (0 ≤ x.job ∧ x.job < L.length) ∧ (0 ≤ x.mach ∧ x.mach < s.cals.length) := by
  unfold nameB; simp; omega
set_option maxRecDepth 100000 in
set_option maxHeartbeats 8000000 in
theorem slot_any (s : ShopR) (A : Option Addr) (c : Nat) (L : List JobR) (B : Option Addr) (d : Nat) (l : List SlotR) (x : SlotR) (w : World) (hs : IsShop w s) (h : IsJobs w A c L) (gp : GoodP s L) (hl : IsSlots w B d l) (hll : l.length < 4611686018427387904) (hn : NamedS s L l) :
    Gives Tryz.prog 103 #[shopV s, .slice A L.length c, .slice B l.length d, slotV x] w (.int .i64 (slotE s L l x)) := by
  apply Gives.ret
  have hcl := hs.cals.len
  have hrl := hs.rows.len
  have hjl := h.len
  have I1 := fun W => in_any x.job 0 ((L.length : Int) - 1) W
  have I2 := fun W => in_any x.mach 0 ((s.cals.length : Int) - 1) W
  have hnb : nameB s L x = ((decide (0 ≤ x.job) && decide (x.job ≤ (L.length : Int) - 1)) && (decide (0 ≤ x.mach) && decide (x.mach ≤ (s.cals.length : Int) - 1))) := rfl
  have hni := nameB_iff (s := s) (L := L) (x := x)
  generalize (decide (0 ≤ x.job) && decide (x.job ≤ (L.length : Int) - 1)) = q1 at *
  generalize (decide (0 ≤ x.mach) && decide (x.mach ≤ (s.cals.length : Int) - 1)) = q2 at *
  have hcase : (q1 = false ∨ (q1 = true ∧ q2 = false)) ∨ (q1 = true ∧ q2 = true) := by cases q1 <;> cases q2 <;> simp
  rcases hcase with hcase | ⟨rfl, rfl⟩
  · have hf : slotE s L l x = 6 := by
      unfold slotE
      rw [if_pos]
      rw [hnb]; rcases hcase with rfl | ⟨rfl, rfl⟩ <;> rfl
    rw [hf]
    clear hs h gp hl hn hnb hni hf
    rcases hcase with rfl | ⟨rfl, rfl⟩
    · go_enter Tryz.func103, Tryz.ntmps103
      go_wp2_with fail
      refine (I1 _).mono ?_
      rintro e w' ⟨rfl, rfl⟩
      go_wp2_with fail
      go_returns
      exact ⟨rfl, Lx⟩
    · go_enter Tryz.func103, Tryz.ntmps103
      go_wp2_with fail
      refine (I1 _).mono ?_
      rintro e w' ⟨rfl, rfl⟩
      go_wp2_with fail
      refine (I2 _).mono ?_
      rintro e w' ⟨rfl, rfl⟩
      go_wp2_with fail
      go_returns
      exact ⟨rfl, Lx⟩
  · have hnt : nameB s L x = true := hnb
    obtain ⟨hxj, hxm⟩ := hni.1 hnt
    have hse : slotE s L l x = if l.any (fun y => y.job == x.job) = true then 7 else if (jobAt L x.job).ms.any (fun m => x.mach == m) = false then 25 else if x.start < (jobAt L x.job).rel then 22 else if shiftB s L x = false then 26 else if l.any (clashB s L x) = true then 27 else 0 := by
      unfold slotE; rw [if_neg (by rw [hnt]; simp)]
    rw [hse]
    clear hse hnb hni
    have SM := fun b W (hW : SinceOf w W) (hb : SlotAt W b x) => containsSame_any (.pointer (some ⟨b, 0, none⟩)) (fun y => y.job == x.job) B d l W (hl.of hW) hll (fun W' hW' y _ => sameFn_any x y b W' (hb.of hW'))
    have CL := fun b1 b2 b3 W (hW : SinceOf w W) (hb1 : SlotAt W b1 x) (hb2 : ShopAt W b2 s) (hb3 : W.cell? ⟨b3, 0, none⟩ = some (.slice A L.length c)) (hO3 : Nonempty (Old W b3)) =>
      containsClash_any (.pointer (some ⟨b1, 0, none⟩)) (.pointer (some ⟨b2, 0, none⟩)) (.pointer (some ⟨b3, 0, none⟩)) (clashB s L x) B d l W (hl.of hW) hll (fun W' hW' y hy => by
        obtain ⟨z, rfl⟩ := hW'
        have hy' := (nameB_iff.1 (hn y hy)).1
        exact clashFn_any s A c L x y b1 b2 b3 z.wd ((hs.of hW).of ⟨z, rfl⟩) ((h.of hW).of ⟨z, rfl⟩) gp hxj hxm hy' (hb1.of ⟨z, rfl⟩) (hb2.of ⟨z, rfl⟩) (by rw [Since.cell]; exact hb3) inferInstance)
    obtain ⟨jn, hjn⟩ : ∃ m : Nat, x.job = m := ⟨x.job.toNat, by omega⟩
    obtain ⟨mn, hmn⟩ : ∃ m : Nat, x.mach = m := ⟨x.mach.toNat, by omega⟩
    have hj' : jn < L.length := by omega
    have hm' : mn < s.cals.length := by omega
    have ej : jobAt L x.job = L[jn] := by rw [hjn]; exact jobAt_at hj'
    have em : calAt s x.mach = s.cals[mn] := by rw [hmn]; exact calAt_at hm'
    have hsb : shiftB s L x = (openV s.cals[mn].P s.cals[mn].S s.cals[mn].D x.start && ((finishV s.cals[mn].P s.cals[mn].S s.cals[mn].D x.start L[jn].dur).2 == 0 && (finishV s.cals[mn].P s.cals[mn].S s.cals[mn].D x.start L[jn].dur).1 == x.stop)) := by
      unfold shiftB openAt finishAt; rw [ej, em]
    rw [ej, hsb]
    have hka := hs.cals.all _ (List.getElem_mem hm')
    have hja := h.all _ (List.getElem_mem hj')
    have FI := fun W hW => finish_any (w := W) x.start L[jn].dur (hka.of hW)
    have OP := fun W hW => open_any (w := W) x.start (hka.of hW)
    have CI := fun W (hW : SinceOf w W) => containsInt_any L[jn].A L[jn].c L[jn].ms x.mach W (hja.1.of hW) hja.2
    simp only [pairV] at FI
    obtain ⟨gc, oc, hAc, hrc⟩ := hs.cals.row.at_ (by omega)
    obtain ⟨gj, oj, hAj, hrj⟩ := h.row.at_ (by omega)
    have hOc := hrc.there
    have hOj := hrj.there
    have c0 := hrc.k0 mn hm'
    have c1 := hrc.k1 mn hm'
    have c2 := hrc.k2 mn hm'
    have j0 := hrj.j0 jn hj'
    have j1 := hrj.j1 jn hj'
    have j2 := hrj.j2 jn hj'
    have j3 := hrj.j3 jn hj'
    have j4 := hrj.j4 jn hj'
    have j5 := hrj.j5 jn hj'
    have HH := Lib.hid (And.intro hrc hrj)
    generalize L[jn] = J at *
    generalize s.cals[mn] = K at *
    generalize finishV K.P K.S K.D x.start J.dur = fv at *
    generalize openV K.P K.S K.D x.start = ov at *
    generalize l.any (fun y => y.job == x.job) = q3 at *
    generalize J.ms.any (fun m => x.mach == m) = q4 at *
    generalize l.any (clashB s L x) = q5 at *
    obtain ⟨fe, fr⟩ := fv
    obtain ⟨xj, xm, xs, xe⟩ := x
    simp only at *
    subst hjn hmn hAj
    obtain ⟨sA, sc, cals, sB, sd, R, most⟩ := s
    simp only at *
    subst hAc
    obtain ⟨v, hv⟩ : ∃ v : Int, v = (if q3 = true then 7 else if q4 = false then 25 else if xs < J.rel then 22 else if (ov && (fr == 0 && fe == xe)) = false then 26 else if q5 = true then 27 else 0) := ⟨_, rfl⟩
    rw [← hv]
    have HV := Lib.hid hv
    clear hs h gp hl hn hnt hrc hrj hka hja ej em hsb HH hv
    go_enter Tryz.func103, Tryz.ntmps103
    go_wp2_with fail
    refine (I1 _).mono ?_
    rintro e w' ⟨rfl, rfl⟩
    go_wp2_with fail
    refine (I2 _).mono ?_
    rintro e w' ⟨rfl, rfl⟩
    go_upto_region 3 with fail
    go_cut [9, 10] (fun s9 s10 wx => ∃ g9 g10 : Nat, s9 = .pointer (some ⟨g9, 0, none⟩) ∧ s10 = .pointer (some ⟨g10, 0, none⟩) ∧ JobAt wx g9 J ∧ CalOn wx g10 K ∧ LaterOf (((w.alloc (.cells #[.slice (some ⟨gc, oc, none⟩) cals.length sc, .slice sB R.length sd, .int .i64 most] 37)).alloc (.cells #[.slice (some ⟨gj, oj, none⟩) L.length c] 38)).alloc (.cells #[.int .i64 jn, .int .i64 mn, .int .i64 xs, .int .i64 xe] 76)) wx)
    case first =>
      go_region_held3 (fun w' => w'.cell? ⟨w.heap.size, 0, none⟩ = some (.slice (some ⟨gc, oc, none⟩) cals.length sc) ∧ w'.cell? ⟨w.heap.size + 1, 0, none⟩ = some (.slice (some ⟨gj, oj, none⟩) L.length c) ∧ w'.cell? ⟨w.heap.size + 1 + 1, 0, none⟩ = some (.int .i64 jn) ∧ w'.cell? ⟨w.heap.size + 1 + 1, 1, none⟩ = some (.int .i64 mn) ∧
          w'.cell? ⟨gj, oj + jn * 6, none⟩ = some (.slice J.A J.ms.length J.c) ∧ w'.cell? ⟨gj, oj + jn * 6 + 1, none⟩ = some (.int .i64 J.dur) ∧ w'.cell? ⟨gj, oj + jn * 6 + 2, none⟩ = some (.int .i64 J.cls) ∧ w'.cell? ⟨gj, oj + jn * 6 + 3, none⟩ = some (.int .i64 J.rel) ∧ w'.cell? ⟨gj, oj + jn * 6 + 4, none⟩ = some (.int .i64 J.due) ∧ w'.cell? ⟨gj, oj + jn * 6 + 5, none⟩ = some (.int .i64 J.ord) ∧
          w'.cell? ⟨gc, oc + mn * 3, none⟩ = some (.int .i64 K.P) ∧ w'.cell? ⟨gc, oc + mn * 3 + 1, none⟩ = some (.slice K.A K.S.length K.c) ∧ w'.cell? ⟨gc, oc + mn * 3 + 2, none⟩ = some (.slice K.B K.D.length K.d)) ((simp [go_sem, *])) (fail)
      all_goals
        go_wp2_with fail
        go_meet
        exact ⟨_, _, rfl, rfl, ⟨by simp [go_sem], by simp [go_sem], by simp [go_sem], by simp [go_sem], by simp [go_sem], by simp [go_sem], inferInstance⟩, ⟨by simp [go_sem], by simp [go_sem], by simp [go_sem], inferInstance⟩, Lx⟩
    case rest =>
      obtain ⟨g9, g10, rfl, rfl, ⟨a0, a1, a2, a3, a4, a5, hO9⟩, ⟨d0, d1, d2, hO10⟩, ⟨y, rfl⟩⟩ := hcut
      clear c0 c1 c2 j0 j1 j2 j3 j4 j5
      go_wp2_with fail
      refine (FI _ Sx).calls.mono ?_
      rintro e _ ⟨rfl, x1, rfl⟩
      go_wp2_with fail
      refine (SM _ _ Sx ⟨by simp [go_sem], by simp [go_sem], by simp [go_sem], by simp [go_sem], inferInstance⟩).calls.mono ?_
      rintro e _ ⟨rfl, x2, rfl⟩
      clear SM FI
      cases q3
      · go_wp2_with fail
        refine (CI _ Sx).calls.mono ?_
        rintro e _ ⟨rfl, x3, rfl⟩
        clear CI
        cases q4
        · go_wp2_with fail
          go_returns
          exact ⟨by rw [HV.out]; simp, Lx⟩
        · by_cases hrel : xs < J.rel
          · have f1 : decide (xs < J.rel) = true := by simpa using hrel
            go_wp2_with fail
            go_returns
            exact ⟨by rw [HV.out]; simp [show xs < J.rel from by simpa using f1], Lx⟩
          · have f1 : decide (xs < J.rel) = false := by simpa using hrel
            have HR := Lib.hid hrel
            clear hrel
            have hsh : (ov = false) ∨ (ov = true ∧ (fr != 0) = true ∧ (fr == 0) = false) ∨ (ov = true ∧ fr = 0 ∧ (fe != xe) = true ∧ (fe == xe) = false) ∨ (ov = true ∧ fr = 0 ∧ fe = xe) := by
              cases ov
              · exact .inl rfl
              · by_cases h0 : fr = 0
                · by_cases h1 : fe = xe
                  · exact .inr (.inr (.inr ⟨rfl, h0, h1⟩))
                  · exact .inr (.inr (.inl ⟨rfl, h0, by simpa using h1, by simpa using h1⟩))
                · exact .inr (.inl ⟨rfl, by simpa using h0, by simpa using h0⟩)
            go_wp2_with fail
            refine (OP _ Sx).calls.mono ?_
            rintro e _ ⟨rfl, x4, rfl⟩
            clear OP
            rcases hsh with rfl | ⟨rfl, t1, t2⟩ | ⟨rfl, rfl, t1, t2⟩ | ⟨rfl, rfl, rfl⟩
            · go_wp2_with fail
              go_returns
              exact ⟨by rw [HV.out]; simp [show ¬ xs < J.rel from by have := HR.out; omega], Lx⟩
            · go_wp2_with fail
              go_returns
              exact ⟨by rw [HV.out]; simp [show ¬ xs < J.rel from by have := HR.out; omega, t2], Lx⟩
            · go_wp2_with fail
              go_returns
              exact ⟨by rw [HV.out]; simp [show ¬ xs < J.rel from by have := HR.out; omega, t2], Lx⟩
            · go_wp2_with fail
              refine (CL _ _ _ _ Sx ⟨by simp [go_sem], by simp [go_sem], by simp [go_sem], by simp [go_sem], inferInstance⟩ ⟨by simp [go_sem], by simp [go_sem], by simp [go_sem], inferInstance⟩ (by simp [go_sem]) inferInstance).calls.mono ?_
              rintro e _ ⟨rfl, x5, rfl⟩
              clear CL
              cases q5
              · go_wp2_with fail
                go_returns
                exact ⟨by rw [HV.out]; simp [show ¬ xs < J.rel from by have := HR.out; omega], Lx⟩
              · go_wp2_with fail
                go_returns
                exact ⟨by rw [HV.out]; simp [show ¬ xs < J.rel from by have := HR.out; omega], Lx⟩
      · go_wp2_with fail
        go_returns
        exact ⟨by rw [HV.out]; simp, Lx⟩
end Go.Proofs.YtpaojgfmffkodaaGreat
/- Layer 52: open. -/
namespace Go.Proofs.YtpaojgfmffkodaaGreat
set_option linter.unusedVariables false
set_option linter.unusedSimpArgs false
open Go.RowKit Go.Sort
attribute [local go_sem ↓] Go.wp_at_zero Go.wp_at_succ
structure Bools (w : World) (g : Nat) (F : Nat → Bool) : Prop where
  cell : ∀ o, o < 1001 → w.cell? ⟨g, o, none⟩ = some (.bool (F o))
  free : ∀ o, o < 1001 → w.frozen? ⟨g, o, none⟩ = false
  there : Nonempty (Old w g)
theorem Bools.of {w w' : World} {g : Nat} {F : Nat → Bool} (h : Bools w g F) (hs : SinceOf w w') : Bools w' g F := by
  obtain ⟨z, rfl⟩ := hs
  have := h.there
  exact ⟨fun o ho => by rw [Since.cell]; exact h.cell o ho, fun o ho => by rw [Since.frozen]; exact h.free o ho, inferInstance⟩
theorem Bools.set {w : World} {g : Nat} {F : Nat → Bool} (h : Bools w g F) (n : Nat) (v : Bool) : Bools (w.setCell ⟨g, n, none⟩ (.bool v)) g (fun o => if o = n then v else F o) := by
  have := h.there
  refine ⟨fun o ho => ?_, fun o ho => by rw [World.frozen?_setCell]; exact h.free o ho, inferInstance⟩
  by_cases e : o = n
  · subst e
    rw [if_pos rfl]
    exact World.cell?_setCell_same _ _ _ (h.cell o ho)
  · rw [if_neg e, World.cell?_setCell_other _ _ _ _ (by intro h; injection h with _ h2 _; exact e h2.symm)]
    exact h.cell o ho
theorem Bools.other {w : World} {g : Nat} {F : Nat → Bool} (h : Bools w g F) (b n : Nat) (u : Value) (hne : g ≠ b) : Bools (w.setCell ⟨b, n, none⟩ u) g F := by
  have := h.there
  refine ⟨fun o ho => ?_, fun o ho => by rw [World.frozen?_setCell]; exact h.free o ho, inferInstance⟩
  rw [World.cell?_setCell_other _ _ _ _ (by intro h; injection h with h1; exact hne h1.symm)]
  exact h.cell o ho
theorem zeros : Tryz.zeroCells198 = Array.replicate 1001 (.bool false) := by kernel_rfl
def ordAt (L : List JobR) (x : SlotR) : Int := (jobAt L x.job).ord
def begunB (L : List JobR) (t : Int) (l : List SlotR) (o : Nat) : Bool := l.any fun x => ordAt L x == o && decide (x.start ≤ t)
def unfinB (L : List JobR) (t : Int) (l : List SlotR) (o : Nat) : Bool := l.any fun x => ordAt L x == o && decide (t < x.stop)
def openTo (L : List JobR) (t : Int) (l : List SlotR) (n : Nat) : Int := ((List.range n).countP fun o => begunB L t l o && unfinB L t l o : Nat)
def openN (L : List JobR) (t : Int) (l : List SlotR) : Int := openTo L t l 1001
theorem openTo_succ (L : List JobR) (t : Int) (l : List SlotR) (n : Nat) : openTo L t l (n + 1) = openTo L t l n + (if (begunB L t l n && unfinB L t l n) = true then 1 else 0) := by
  unfold openTo; rw [List.range_succ, List.countP_append]
  simp only [List.countP_singleton]
  split <;> simp
theorem openTo_le (L : List JobR) (t : Int) (l : List SlotR) (n : Nat) : 0 ≤ openTo L t l n ∧ openTo L t l n ≤ n := by
  unfold openTo
  have := List.countP_le_length (p := fun o => begunB L t l o && unfinB L t l o) (l := List.range n)
  rw [List.length_range] at this
  omega
theorem begun_cons (L : List JobR) (t : Int) {l : List SlotR} {k : Nat} (h : k < l.length) (o : Nat) : begunB L t (l.drop k) o = ((ordAt L l[k] == o && decide (l[k].start ≤ t)) || begunB L t (l.drop (k + 1)) o) := by
  unfold begunB; rw [List.drop_eq_getElem_cons h, List.any_cons]
theorem unfin_cons (L : List JobR) (t : Int) {l : List SlotR} {k : Nat} (h : k < l.length) (o : Nat) : unfinB L t (l.drop k) o = ((ordAt L l[k] == o && decide (t < l[k].stop)) || unfinB L t (l.drop (k + 1)) o) := by
  unfold unfinB; rw [List.drop_eq_getElem_cons h, List.any_cons]
theorem turned {F : Nat → Bool} {n : Nat} {q : Bool} {r R : Nat → Bool} (h : ∀ o, R o = (F o || (((n : Int) == (o : Int)) && q || r o))) : ∀ o, R o = ((if o = n then (F n || q) else F o) || r o) := by
  intro o
  rw [h o]
  by_cases e : o = n
  · subst e; rw [if_pos rfl, show ((o : Int) == (o : Int)) = true from by simp]; cases F o <;> cases q <;> simp
  · rw [if_neg e, show ((n : Int) == (o : Int)) = false from by simp; omega]; simp
set_option maxRecDepth 100000 in
set_option maxHeartbeats 4000000 in
theorem openS_any (A : Option Addr) (c : Nat) (L : List JobR) (B : Option Addr) (d : Nat) (l : List SlotR) (t : Int) (w : World) (h : IsJobs w A c L) (hl : IsSlots w B d l) (hll : l.length < 4611686018427387904)
    (hn : ∀ y ∈ l, 0 ≤ y.job ∧ y.job < L.length) (hord : ∀ j ∈ L, 0 ≤ j.ord ∧ j.ord ≤ 1000) :
    Gives Tryz.prog 104 #[.slice A L.length c, .slice B l.length d, .int .i64 t] w (.int .i64 (openN L t l)) := by
  apply Gives.ret
  have hjl := h.len
  have H := Lib.hid (And.intro h (And.intro hl (And.intro hn hord)))
  clear h hl hn hord
  go_enter Tryz.func104, Tryz.ntmps104
  go_wp2_with fail
  have z1 : Bools ((w.alloc (.cells Tryz.zeroCells198 198)).alloc (.cells Tryz.zeroCells198 198)) w.heap.size (fun _ => false) := by
    rw [zeros]
    exact ⟨fun o ho => by simp [go_sem, ho], fun o ho => by simp [go_sem], inferInstance⟩
  have z2 : Bools ((w.alloc (.cells Tryz.zeroCells198 198)).alloc (.cells Tryz.zeroCells198 198)) (w.heap.size + 1) (fun _ => false) := by
    rw [zeros]
    exact ⟨fun o ho => by simp [go_sem, ho], fun o ho => by simp [go_sem], inferInstance⟩
  generalize hW0 : (w.alloc (.cells Tryz.zeroCells198 198)).alloc (.cells Tryz.zeroCells198 198) = W0 at *
  have hW : LaterOf w W0 := by rw [← hW0]; exact (LaterOf.alloc (LaterOf.alloc (LaterOf.refl w) _) _)
  clear hW0
  have HZ := Lib.hid (And.intro hW (And.intro z1 z2))
  clear hW z1 z2
  go_loopg [16] l.length (fun gas s16 wr => ∃ (k : Nat) (F G : Nat → Bool), k ≤ l.length ∧ l.length - k ≤ gas ∧ s16 = .int .i64 k ∧ LaterOf w wr ∧ Bools wr w.heap.size F ∧ Bools wr (w.heap.size + 1) G ∧ (∀ o, begunB L t l o = (F o || begunB L t (l.drop k) o)) ∧ (∀ o, unfinB L t l o = (G o || unfinB L t (l.drop k) o)))
  case atStart => exact ⟨0, fun _ => false, fun _ => false, by omega, by omega, rfl, HZ.out.1, HZ.out.2.1, HZ.out.2.2, fun o => by rw [List.drop_zero, Bool.false_or], fun o => by rw [List.drop_zero, Bool.false_or]⟩
  case round =>
    obtain ⟨k, F, G, hk, hgas, rfl, hz, hB, hU, hb, hu⟩ := hrel
    by_cases hlt : k < l.length
    · have hrl := (H.out.2.1.of hz.since)
      have hrj0 := (H.out.1.of hz.since)
      obtain ⟨hx0, hx1⟩ := H.out.2.2.1 _ (List.getElem_mem hlt)
      obtain ⟨jn, hjn⟩ : ∃ m : Nat, l[k].job = m := ⟨l[k].job.toNat, by omega⟩
      have hj' : jn < L.length := by omega
      obtain ⟨ho0, ho1⟩ := H.out.2.2.2 _ (List.getElem_mem hj')
      obtain ⟨n, hn⟩ : ∃ m : Nat, L[jn].ord = m := ⟨L[jn].ord.toNat, by omega⟩
      have hn1 : n < 1001 := by omega
      have eo : ordAt L l[k] = n := by unfold ordAt; rw [hjn, jobAt_at hj', hn]
      have hb2 := turned (F := F) (R := begunB L t l) (n := n) (q := decide (l[k].start ≤ t)) (r := begunB L t (l.drop (k + 1))) (fun o => by rw [hb o, begun_cons L t hlt, eo])
      have hu2 := turned (F := G) (R := unfinB L t l) (n := n) (q := decide (t < l[k].stop)) (r := unfinB L t (l.drop (k + 1))) (fun o => by rw [hu o, unfin_cons L t hlt, eo])
      obtain ⟨gs, os, rfl, hrs⟩ := hrl.at_ (by omega)
      obtain ⟨gj, oj, rfl, hrj⟩ := hrj0.row.at_ (by omega)
      have hOs := hrs.there
      have hOj := hrj.there
      have s0 := hrs.s0 k hlt
      have s1 := hrs.s1 k hlt
      have s2 := hrs.s2 k hlt
      have s3 := hrs.s3 k hlt
      have j5 := hrj.j5 jn hj'
      rw [hjn] at s0
      rw [hn] at j5
      have cB := hB.cell n hn1
      have fB := hB.free n hn1
      have cU := hU.cell n hn1
      have fU := hU.free n hn1
      have hOB := hB.there
      have hOU := hU.there
      have hlt2 : w.heap.size + 1 < wr.heap.size := hOU.elim fun h => h.lt
      have hp1 : Nonempty (Apart wr.heap.size w.heap.size) := ⟨⟨by omega⟩⟩
      have hp2 : Nonempty (Apart wr.heap.size (w.heap.size + 1)) := ⟨⟨by omega⟩⟩
      generalize l[k].start = xs at *
      generalize l[k].stop = xe at *
      generalize l[k].mach = xm at *
      have HR := Lib.hid (And.intro hz (And.intro hB (And.intro hU (And.intro hb2 hu2))))
      clear hz hB hU hb hu hb2 hu2 hrs hrj hrj0 hrl hjn hn eo hx0 hx1 ho0 ho1
      cases hF : F n <;> cases hG : G n
      all_goals
        rw [hF] at cB
        rw [hG] at cU
        have HFG := Lib.hid (And.intro hF hG)
        clear hF hG
        go_wp2_with fail
        go_roundg (l.length - (k + 1))
        case measure => omega
        case rel =>
          obtain ⟨hz, hB, hU, hb2, hu2⟩ := HR.out
          refine ⟨k + 1, fun o => if o = n then (F n || decide (xs ≤ t)) else F o, fun o => if o = n then (G n || decide (t < xe)) else G o, hlt, Nat.le_refl _, by go_num, ((hz.alloc _).setCell (Nat.le_refl _) _).setCell (Nat.le_succ _) _, ?_, ?_, hb2, hu2⟩
          · rw [HFG.out.1]
            first | rw [Bool.false_or] | rw [Bool.true_or]
            exact ((hB.of ((SinceOf.refl _).alloc _)).set n _).other _ n _ (by omega)
          · rw [HFG.out.2]
            first | rw [Bool.false_or] | rw [Bool.true_or]
            exact ((hU.of ((SinceOf.refl _).alloc _)).other _ n _ (by omega)).set n _
    · have hkl : k = l.length := by omega
      have eb : ∀ o, begunB L t l o = F o := fun o => by rw [hb o, hkl, List.drop_length]; simp [begunB]
      have eu : ∀ o, unfinB L t l o = G o := fun o => by rw [hu o, hkl, List.drop_length]; simp [unfinB]
      have HR := Lib.hid (And.intro hz (And.intro hB (And.intro hU (And.intro eb eu))))
      have hOB := hB.there
      have hOU := hU.there
      clear hz hB hU hb hu eb eu hkl
      go_wp2_with fail
      go_loopg [12, 49] 1001 (fun gas s12 s49 wx => ∃ o : Nat, o ≤ 1001 ∧ 1001 - o ≤ gas ∧ s12 = .int .i64 (openTo L t l o) ∧ s49 = .int .i64 o ∧ wr = wx)
      case atStart => exact ⟨0, by omega, by omega, rfl, rfl, rfl⟩
      case round =>
        obtain ⟨o, ho, hgas2, rfl, rfl, rfl⟩ := hrel
        by_cases hlto : o < 1001
        · have cB := HR.out.2.1.cell o hlto
          have cU := HR.out.2.2.1.cell o hlto
          have hsu := openTo_succ L t l o
          rw [HR.out.2.2.2.1 o, HR.out.2.2.2.2 o] at hsu
          have hle := openTo_le L t l o
          generalize openTo L t l o = cn at *
          have hlt3 : o < 1001 := hlto
          cases hF : F o
          · rw [hF] at cB hsu
            simp at hsu
            have HS := Lib.hid hsu
            clear hsu hF
            go_wp2_with fail
            go_roundg (1001 - (o + 1))
            case measure => omega
            case rel => exact ⟨o + 1, hlto, Nat.le_refl _, by rw [HS.out], by go_num, rfl⟩
          · cases hG : G o
            · rw [hF] at cB
              rw [hF, hG] at hsu
              rw [hG] at cU
              simp at hsu
              have HS := Lib.hid hsu
              clear hsu hF hG
              go_wp2_with fail
              go_roundg (1001 - (o + 1))
              case measure => omega
              case rel => exact ⟨o + 1, hlto, Nat.le_refl _, by rw [HS.out], by go_num, rfl⟩
            · rw [hF] at cB
              rw [hF, hG] at hsu
              rw [hG] at cU
              simp at hsu
              have HS := Lib.hid hsu
              clear hsu hF hG
              go_wp2_with fail
              go_roundg (1001 - (o + 1))
              case measure => omega
              case rel => exact ⟨o + 1, hlto, Nat.le_refl _, by rw [HS.out], by go_num, rfl⟩
        · have hol : o = 1001 := by omega
          subst hol
          go_wp2_with fail
          go_returns
          exact ⟨rfl, HR.out.1⟩
end Go.Proofs.YtpaojgfmffkodaaGreat
/- Layer 52: valid, Valid. -/
namespace Go.Proofs.YtpaojgfmffkodaaGreat
set_option linter.unusedVariables false
set_option linter.unusedSimpArgs false
open Go.RowKit Go.Sort
attribute [local go_sem ↓] Go.wp_at_zero Go.wp_at_succ
def firstBad (f : Nat → Int) : List Nat → Option (Nat × Int)
  | [] => none
  | i :: r => if f i = 0 then firstBad f r else some (i, f i)
theorem firstBad_drop (f : Nat → Int) {n k : Nat} (h : k < n) : firstBad f ((List.range n).drop k) = if f k = 0 then firstBad f ((List.range n).drop (k + 1)) else some (k, f k) := by
  rw [List.drop_eq_getElem_cons (by simpa using h), List.getElem_range]; rfl
theorem firstBad_end (f : Nat → Int) (n : Nat) : firstBad f ((List.range n).drop n) = none := by
  rw [List.drop_eq_nil_of_le (by simp)]; rfl
def noSlot : SlotR := ⟨0, 0, 0, 0⟩
def fitE (s : ShopR) (L : List JobR) (l : List SlotR) (k : Nat) : Int := slotE s L (l.take k) (l.getD k noSlot)
def openE (s : ShopR) (L : List JobR) (l : List SlotR) (k : Nat) : Int := if s.most < openN L (l.getD k noSlot).start l then 28 else 0
def validV (s : ShopR) (L : List JobR) (l : List SlotR) : Int × Int :=
  match firstBad (fitE s L l) (List.range l.length) with
  | some (i, e) => (i, e)
  | none => match firstBad (openE s L l) (List.range l.length) with
    | some (i, e) => (i, e)
    | none => (l.length, 0)
theorem named_of {s : ShopR} {L : List JobR} {ahead : List SlotR} {x : SlotR} (h : slotE s L ahead x = 0) : nameB s L x = true := by
  unfold slotE at h
  cases hn : nameB s L x
  · rw [if_pos hn] at h; cases h
  · rfl
theorem getS_at {l : List SlotR} {k : Nat} (h : k < l.length) : l.getD k noSlot = l[k] := by rw [List.getD_eq_getElem?_getD, List.getElem?_eq_getElem h, Option.getD_some]
set_option maxRecDepth 100000 in
set_option maxHeartbeats 4000000 in
theorem validS_any (s : ShopR) (A : Option Addr) (c : Nat) (L : List JobR) (B : Option Addr) (d : Nat) (l : List SlotR) (w : World) (hs : IsShop w s) (h : IsJobs w A c L) (gp : GoodP s L) (hord : ∀ j ∈ L, 0 ≤ j.ord ∧ j.ord ≤ 1000) (hl : IsSlots w B d l) (hll : l.length < 4611686018427387904) (hcap : l.length ≤ d) :
    Gives Tryz.prog 63 #[shopV s, .slice A L.length c, .slice B l.length d] w (.tuple #[.int .i64 (validV s L l).1, .int .i64 (validV s L l).2]) := by
  apply Gives.ret
  obtain ⟨v1, hv1⟩ : ∃ v, v = (validV s L l).1 := ⟨_, rfl⟩
  obtain ⟨v2, hv2⟩ : ∃ v, v = (validV s L l).2 := ⟨_, rfl⟩
  have SL := fun (k : Nat) (hk : k ≤ l.length) (hn : NamedS s L (l.take k)) x W (hW : SinceOf w W) => slot_any s A c L B d (l.take k) x W (hs.of hW) (h.of hW) gp ((hl.take k).of hW) (by rw [List.length_take]; omega) hn
  have HO := Lib.hid (And.intro hl (And.intro h (And.intro hord (And.intro hv1 hv2))))
  rw [← hv1, ← hv2]
  obtain ⟨sA, sc, cals, sB, sd, R, most⟩ := s
  clear hs h gp hord hl hv1 hv2
  go_enter Tryz.func63, Tryz.ntmps63
  go_wp2_with fail
  go_loopg [15] l.length (fun gas s15 wr => ∃ k : Nat, k ≤ l.length ∧ l.length - k ≤ gas ∧ s15 = .int .i64 k ∧ LaterOf (w.alloc (.cells #[.slice sA cals.length sc, .slice sB R.length sd, .int .i64 most] 37)) wr ∧ NamedS ⟨sA, sc, cals, sB, sd, R, most⟩ L (l.take k) ∧
    firstBad (fitE ⟨sA, sc, cals, sB, sd, R, most⟩ L l) (List.range l.length) = firstBad (fitE ⟨sA, sc, cals, sB, sd, R, most⟩ L l) ((List.range l.length).drop k))
  case atStart => exact ⟨0, by omega, by omega, rfl, Lx, (by intro y hy; simp at hy), by rw [List.drop_zero]⟩
  case round =>
    obtain ⟨k, hk, hgas, rfl, ⟨z, rfl⟩, hnam, hfb⟩ := hrel
    by_cases hlt : k < l.length
    · rw [firstBad_drop _ hlt] at hfb
      have SK := SL k hk hnam l[k]
      have hfe : fitE ⟨sA, sc, cals, sB, sd, R, most⟩ L l k = slotE ⟨sA, sc, cals, sB, sd, R, most⟩ L (l.take k) l[k] := by unfold fitE; rw [getS_at hlt]
      rw [show (l.take k).length = k from by rw [List.length_take]; omega, ← hfe] at SK
      have hrl := HO.out.1.of (w' := z.wd) Sx
      obtain ⟨g, off, rfl, hr⟩ := hrl.at_ (by omega)
      have hO := hr.there
      have s0 := hr.s0 k hlt
      have s1 := hr.s1 k hlt
      have s2 := hr.s2 k hlt
      have s3 := hr.s3 k hlt
      have hnext : fitE ⟨sA, sc, cals, sB, sd, R, most⟩ L l k = 0 → NamedS ⟨sA, sc, cals, sB, sd, R, most⟩ L (l.take (k + 1)) := by
        intro e y hy
        rw [List.take_succ_eq_append_getElem hlt, List.mem_append] at hy
        rcases hy with hy | hy
        · exact hnam y hy
        · rw [List.mem_singleton] at hy
          rw [hy]; exact named_of (hfe ▸ e)
      generalize l[k] = x at *
      generalize fitE ⟨sA, sc, cals, sB, sd, R, most⟩ L l k = fe at *
      have HF := Lib.hid (And.intro hfb hnext)
      clear hfb hnext hnam hfe hr hrl
      by_cases h0 : fe = 0
      · subst h0
        go_wp2_with fail
        refine region_later (by kernel_rfl) (by kernel_rfl) ?_
        repeat (go_big_quiet_step ((with_reducible refine Gives.later (SK _ Sx))))
        refine wpQuiet_nil ?_
        rintro _ ⟨z2, rfl⟩
        go_wp2_with fail
        go_roundg (l.length - (k + 1))
        case measure => omega
        case rel => exact ⟨k + 1, hlt, Nat.le_refl _, by go_num, Lx, HF.out.2 (by trivial), by rw [HF.out.1, if_pos (by trivial)]⟩
      · have hne : (fe != 0) = true := by simpa using h0
        have HN := Lib.hid h0
        clear h0
        go_wp2_with fail
        refine region_later (by kernel_rfl) (by kernel_rfl) ?_
        repeat (go_big_quiet_step ((with_reducible refine Gives.later (SK _ Sx))))
        refine wpQuiet_nil ?_
        rintro _ ⟨z2, rfl⟩
        go_wp2_with fail
        go_returns
        have hvv : validV ⟨sA, sc, cals, sB, sd, R, most⟩ L l = ((k : Int), fe) := by unfold validV; rw [HF.out.1, if_neg HN.out]
        refine ⟨?_, Lx⟩
        rw [HO.out.2.2.2.1, HO.out.2.2.2.2, hvv]
        try rfl
    · have hkl : k = l.length := by omega
      rw [hkl, firstBad_end] at hfb
      rw [hkl, List.take_length] at hnam
      have OP := fun t W (hW : SinceOf w W) => openS_any A c L B d l t W (HO.out.2.1.of hW) (HO.out.1.of hW) hll (fun y hy => (nameB_iff.1 (hnam y hy)).1) HO.out.2.2.1
      have HF := Lib.hid hfb
      clear hfb hnam hkl SL
      go_wp2_with fail
      go_loopg [34] l.length (fun gas s34 wr => ∃ k : Nat, k ≤ l.length ∧ l.length - k ≤ gas ∧ s34 = .int .i64 k ∧ LaterOf (w.alloc (.cells #[.slice sA cals.length sc, .slice sB R.length sd, .int .i64 most] 37)) wr ∧
        firstBad (openE ⟨sA, sc, cals, sB, sd, R, most⟩ L l) (List.range l.length) = firstBad (openE ⟨sA, sc, cals, sB, sd, R, most⟩ L l) ((List.range l.length).drop k))
      case atStart => exact ⟨0, by omega, by omega, rfl, Lx, by rw [List.drop_zero]⟩
      case round =>
        obtain ⟨i, hi, hgas2, rfl, ⟨z3, rfl⟩, hfb2⟩ := hrel
        by_cases hlti : i < l.length
        · rw [firstBad_drop _ hlti] at hfb2
          have hoe : openE ⟨sA, sc, cals, sB, sd, R, most⟩ L l i = if most < openN L l[i].start l then 28 else 0 := by unfold openE; rw [getS_at hlti]
          have OK := OP l[i].start
          have hrl := HO.out.1.of (w' := z3.wd) Sx
          obtain ⟨g, off, rfl, hr⟩ := hrl.at_ (by omega)
          have hO := hr.there
          have s0 := hr.s0 i hlti
          have s1 := hr.s1 i hlti
          have s2 := hr.s2 i hlti
          have s3 := hr.s3 i hlti
          generalize l[i].start = xs at *
          generalize l[i].stop = xe at *
          generalize l[i].mach = xm at *
          generalize l[i].job = xj at *
          generalize openN L xs l = on at *
          clear hr hrl
          by_cases hlt3 : most < on
          · rw [hoe, if_pos hlt3, if_neg (by omega)] at hfb2
            have hd : decide (most < on) = true := by simpa using hlt3
            have HG := Lib.hid hfb2
            clear hfb2 hoe hlt3
            go_wp2_with fail
            refine region_later (by kernel_rfl) (by kernel_rfl) ?_
            repeat (go_big_quiet_step ((with_reducible refine Gives.later (OK _ Sx))))
            refine wpQuiet_nil ?_
            rintro _ ⟨z4, rfl⟩
            go_wp2_with fail
            go_returns
            have hvv : validV ⟨sA, sc, cals, sB, sd, R, most⟩ L l = ((i : Int), 28) := by unfold validV; rw [HF.out, HG.out]
            refine ⟨?_, Lx⟩
            rw [HO.out.2.2.2.1, HO.out.2.2.2.2, hvv]
            try rfl
          · rw [hoe, if_neg hlt3, if_pos rfl] at hfb2
            have hd : decide (most < on) = false := by simpa using hlt3
            have HG := Lib.hid hfb2
            clear hfb2 hoe hlt3
            go_wp2_with fail
            refine region_later (by kernel_rfl) (by kernel_rfl) ?_
            repeat (go_big_quiet_step ((with_reducible refine Gives.later (OK _ Sx))))
            refine wpQuiet_nil ?_
            rintro _ ⟨z4, rfl⟩
            go_wp2_with fail
            go_roundg (l.length - (i + 1))
            case measure => omega
            case rel => exact ⟨i + 1, hlti, Nat.le_refl _, by go_num, Lx, HG.out⟩
        · have hil : i = l.length := by omega
          rw [hil, firstBad_end] at hfb2
          have HG := Lib.hid hfb2
          clear hfb2 hil
          go_wp2_with fail
          go_returns
          have hvv : validV ⟨sA, sc, cals, sB, sd, R, most⟩ L l = ((l.length : Int), 0) := by unfold validV; rw [HF.out, HG.out]
          refine ⟨?_, Lx⟩
          rw [HO.out.2.2.2.1, HO.out.2.2.2.2, hvv]
          try rfl
end Go.Proofs.YtpaojgfmffkodaaGreat
/- Layer 52: Valid. -/
namespace Go.Proofs.YtpaojgfmffkodaaGreat
set_option linter.unusedVariables false
set_option linter.unusedSimpArgs false
open Go.RowKit Go.Sort
attribute [local go_sem ↓] Go.wp_at_zero Go.wp_at_succ
theorem check_job {s : ShopR} {L : List JobR} (h : checkS s L = true) {j : JobR} (hj : j ∈ L) : jobB s j = true := by
  unfold checkS at h
  rw [Bool.and_eq_true, Bool.and_eq_true] at h
  have := h.2.2
  rw [Bool.not_eq_true', List.any_eq_false] at this
  simpa using this j hj
theorem job_parts {s : ShopR} {j : JobR} (h : jobB s j = true) : machsB s.cals.length j.ms = true ∧ 0 < j.ms.length ∧ (1 ≤ j.dur ∧ j.dur ≤ 10000) ∧ (0 ≤ j.cls ∧ j.cls < s.rows.length) ∧ (0 ≤ j.rel ∧ j.rel ≤ 1000000) ∧ (0 ≤ j.due ∧ j.due ≤ 1000000) ∧ (0 ≤ j.ord ∧ j.ord ≤ 1000) := by
  unfold jobB restB at h
  simp only [Bool.and_eq_true, decide_eq_true_eq] at h
  obtain ⟨h1, h2, h3, h4, h5, h6, h7⟩ := h
  exact ⟨h1, h2, h3, ⟨h4.1, by omega⟩, h5, h6, h7⟩
theorem check_good {s : ShopR} {L : List JobR} (h : checkS s L = true) : GoodP s L := by
  refine ⟨fun a ha => ?_, fun j hj => (job_parts (check_job h hj)).2.2.2.1⟩
  unfold checkS shopB sizesB at h
  simp only [Bool.and_eq_true] at h
  have := List.all_eq_true.1 h.1.2.1 s.rows[a] (List.getElem_mem ha)
  simpa using this
def validT (s : ShopR) (L : List JobR) (l : List SlotR) : Int × Int := if checkS s L = true then validV s L l else (0, 1)
set_option maxHeartbeats 1000000 in
theorem valid52_any (s : ShopR) (A : Option Addr) (c : Nat) (L : List JobR) (B : Option Addr) (d : Nat) (l : List SlotR) (w : World) (hs : IsShop w s) (h : IsJobs w A c L) (hl : IsSlots w B d l) (hll : l.length < 4611686018427387904) (hcap : l.length ≤ d) :
    Gives Tryz.prog 28 #[shopV s, .slice A L.length c, .slice B l.length d] w (.tuple #[.int .i64 (validT s L l).1, .int .i64 (validT s L l).2]) := by
  apply Gives.ret
  have CH := fun W hW => check_any s A c L W (hs.of hW) (h.of hW)
  cases hc : checkS s L
  · have e : validT s L l = (0, 1) := by unfold validT; rw [hc]; rfl
    rw [hc] at CH
    rw [e]
    clear hs h hl hc e
    go_enter Tryz.func28, Tryz.ntmps28
    go_wp2_with fail
    refine (CH _ Sx).calls.mono ?_
    rintro e _ ⟨rfl, x1, rfl⟩
    go_wp2_with fail
    go_returns
    exact ⟨rfl, Lx⟩
  · have e : validT s L l = validV s L l := by unfold validT; rw [hc]; rfl
    have VA := fun W (hW : SinceOf w W) => validS_any s A c L B d l W (hs.of hW) (h.of hW) (check_good hc) (fun j hj => (job_parts (check_job hc hj)).2.2.2.2.2.2) (hl.of hW) hll hcap
    rw [hc] at CH
    rw [e]
    generalize validV s L l = v at *
    obtain ⟨v1, v2⟩ := v
    clear hs h hl hc e
    go_enter Tryz.func28, Tryz.ntmps28
    go_wp2_with fail
    refine (CH _ Sx).calls.mono ?_
    rintro e _ ⟨rfl, x1, rfl⟩
    go_wp2_with fail
    refine (VA _ Sx).calls.mono ?_
    rintro e _ ⟨rfl, x2, rfl⟩
    go_wp2_with fail
    go_returns
    exact ⟨rfl, Lx⟩
end Go.Proofs.YtpaojgfmffkodaaGreat
