/- Layer 52: beginning. -/
import Derived.Test.YtpaojgfmffkodaaGreatLSch11
import Derived.Laws.StructEq
namespace Go.Proofs.YtpaojgfmffkodaaGreat
set_option linter.unusedVariables false
set_option linter.unusedSimpArgs false
open Go.RowKit Go.Sort
attribute [local go_sem ↓] Go.wp_at_zero Go.wp_at_succ
def beginV (s : ShopR) (L : List JobR) (jb m : Int) : Int → List SlotR → Option Int
  | b, [] => some b
  | b, x :: r => if x.mach = m then (if (finishAt s m x.stop (setupAt s L x.job jb)).2 = 0 then beginV s L jb m (imax b (finishAt s m x.stop (setupAt s L x.job jb)).1) r else none) else beginV s L jb m b r
theorem beginV_drop (s : ShopR) (L : List JobR) (jb m b : Int) {l : List SlotR} {k : Nat} (h : k < l.length) : beginV s L jb m b (l.drop k) = if l[k].mach = m then (if (finishAt s m l[k].stop (setupAt s L l[k].job jb)).2 = 0 then beginV s L jb m (imax b (finishAt s m l[k].stop (setupAt s L l[k].job jb)).1) (l.drop (k + 1)) else none) else beginV s L jb m b (l.drop (k + 1)) := by
  rw [List.drop_eq_getElem_cons h]; rfl
def beginR (o : Option Int) : Value := match o with
  | some b => .tuple #[.int .i64 b, .bool true]
  | none => .tuple #[.int .i64 0, .bool false]
set_option maxRecDepth 100000 in
set_option maxHeartbeats 4000000 in
theorem beginning_any (s : ShopR) (A : Option Addr) (c : Nat) (L : List JobR) (B : Option Addr) (d : Nat) (l : List SlotR) (jb m : Nat) (w : World) (hs : IsShop w s) (h : IsJobs w A c L) (gp : GoodP s L) (hl : IsSlots w B d l) (hll : l.length < 4611686018427387904) (hn : NamedS s L l) (hjb : jb < L.length) (hm : m < s.cals.length) :
    Gives Tryz.prog 156 #[shopV s, .slice A L.length c, .slice B l.length d, .int .i64 jb, .int .i64 m] w (beginR (beginV s L jb m (jobAt L jb).rel l)) := by
  apply Gives.ret
  have hcl := hs.cals.len
  have hrl := hs.rows.len
  have hjl := h.len
  have hka := hs.cals.all _ (List.getElem_mem hm)
  have FI := fun t k W hW => finish_any (w := W) t k (hka.of hW)
  have ek : ∀ t k, finishAt s m t k = finishV s.cals[m].P s.cals[m].S s.cals[m].D t k := fun t k => by unfold finishAt; rw [calAt_at hm]
  obtain ⟨gc, oc, hAc, hrc⟩ := hs.cals.row.at_ (by omega)
  obtain ⟨gj, oj, hAj, hrj⟩ := h.row.at_ (by omega)
  have hOc := hrc.there
  have hOj := hrj.there
  have c0 := hrc.k0 m hm
  have c1 := hrc.k1 m hm
  have c2 := hrc.k2 m hm
  have i2 := hrj.j2 jb hjb
  have i3 := hrj.j3 jb hjb
  obtain ⟨cb0, cb1⟩ := gp.cls _ (List.getElem_mem hjb)
  obtain ⟨q, hq⟩ : ∃ q : Nat, L[jb].cls = q := ⟨L[jb].cls.toNat, by omega⟩
  have hq' : q < s.rows.length := by omega
  rw [hq] at i2
  have erel : (jobAt L jb).rel = L[jb].rel := by rw [jobAt_at hjb]
  rw [erel]
  generalize hrelv : L[jb].rel = rel at *
  obtain ⟨res, hres⟩ : ∃ v, v = beginV s L jb m rel l := ⟨_, rfl⟩
  rw [← hres]
  obtain ⟨sA, sc, cals, sB, sd, R, most⟩ := s
  simp only at *
  obtain ⟨gr, og, hAr, hrr⟩ := hs.rows.row.at_ (by show 0 < R.length; omega)
  have hOr := hrr.there
  simp only at hAr
  subst hAc hAj hAr
  have H := Lib.hid (And.intro hs (And.intro h (And.intro gp (And.intro hl (And.intro hn (And.intro hres (And.intro hrr (And.intro hrj (And.intro hq ek)))))))))
  generalize cals[m] = K at *
  clear hs h gp hl hn hres hrr hrj hrc hq ek erel hka hrelv cb0 cb1
  go_enter Tryz.func156, Tryz.ntmps156
  go_wp2_with fail
  go_loopg [12, 24] l.length (fun gas s12 s24 wr => ∃ (k : Nat) (b : Int), k ≤ l.length ∧ l.length - k ≤ gas ∧ s12 = .int .i64 b ∧ s24 = .int .i64 k ∧ LaterOf (w.alloc (.cells #[.slice (some ⟨gc, oc, none⟩) cals.length sc, .slice (some ⟨gr, og, none⟩) R.length sd, .int .i64 most] 37)) wr ∧ res = beginV ⟨some ⟨gc, oc, none⟩, sc, cals, some ⟨gr, og, none⟩, sd, R, most⟩ L jb m b (l.drop k))
  case atStart => exact ⟨0, rel, by omega, by omega, rfl, rfl, Lx, by rw [List.drop_zero]; exact H.out.2.2.2.2.2.1⟩
  case round =>
    obtain ⟨k, b, hk, hgas, rfl, rfl, ⟨z, rfl⟩, hb⟩ := hrel
    by_cases hlt : k < l.length
    · rw [beginV_drop _ _ _ _ _ hlt] at hb
      have hrl' := H.out.2.2.2.1.of (w' := z.wd) Sx
      obtain ⟨gs, os, rfl, hrs⟩ := hrl'.at_ (by omega)
      have hOs := hrs.there
      have s0 := hrs.s0 k hlt
      have s1 := hrs.s1 k hlt
      have s2 := hrs.s2 k hlt
      have s3 := hrs.s3 k hlt
      obtain ⟨⟨hx0, hx1⟩, -⟩ := nameB_iff.1 (H.out.2.2.2.2.1 _ (List.getElem_mem hlt))
      by_cases hmm : l[k].mach = m
      · rw [if_pos hmm] at hb
        obtain ⟨ja, hja⟩ : ∃ p : Nat, l[k].job = p := ⟨l[k].job.toNat, by omega⟩
        have hja' : ja < L.length := by omega
        obtain ⟨ca0, ca1⟩ := H.out.2.2.1.cls _ (List.getElem_mem hja')
        obtain ⟨p, hp⟩ : ∃ p : Nat, L[ja].cls = p := ⟨L[ja].cls.toNat, by omega⟩
        have hp' : p < R.length := by have h9 : L[ja].cls < (R.length : Int) := ca1; omega
        have hz := H.out.2.2.1.sz p hp'
        have hrw := H.out.1.rows.all _ (List.getElem_mem hp')
        try simp only at hz hrw
        obtain ⟨gx, ox, hAx, hrx⟩ := hrw.1.at_ (by omega)
        have hOx := hrx.there
        have x0 := hrx.n0 q (by omega)
        rw [← get2_at hp' (by omega)] at x0
        have r0 := H.out.2.2.2.2.2.2.1.r0 p hp'
        have j2 := H.out.2.2.2.2.2.2.2.1.j2 ja hja'
        try simp only at r0
        rw [hAx, hz] at r0
        rw [hp] at j2
        have e2 : setupAt ⟨some ⟨gc, oc, none⟩, sc, cals, some ⟨gr, og, none⟩, sd, R, most⟩ L l[k].job jb = get2 R p q := by unfold setupAt; rw [hja, jobAt_at hja', jobAt_at hjb, hp, H.out.2.2.2.2.2.2.2.2.1]; rfl
        rw [e2, H.out.2.2.2.2.2.2.2.2.2] at hb
        have FK := fun W hW => FI l[k].stop (get2 R p q) W hW
        simp only [pairV] at FK
        rw [hja] at s0
        rw [hmm] at s1
        generalize get2 R p q = st at *
        generalize l[k].stop = xe at *
        generalize l[k].start = xs at *
        generalize finishV K.P K.S K.D xe st = fv at *
        obtain ⟨fe, fr⟩ := fv
        generalize R[p].c = cx at *
        try simp only at hb FK
        clear hrs hrl' hrw hrx hAx hmm hja hx0 hx1 ca0 ca1 hp hz e2
        by_cases h0 : fr = 0
        · subst h0
          rw [if_pos rfl] at hb
          have HB := Lib.hid hb
          clear hb
          go_wp2_with fail
          refine region_later (by kernel_rfl) (by kernel_rfl) ?_
          repeat (go_big_quiet_step ((with_reducible refine Gives.later (FK _ Sx))))
          refine wpQuiet_nil ?_
          rintro _ ⟨z2, rfl⟩
          go_wp2_with fail
          go_roundg (l.length - (k + 1))
          case measure => omega
          case rel => exact ⟨k + 1, imax b fe, hlt, Nat.le_refl _, rfl, by go_num, Lx, HB.out⟩
        · rw [if_neg h0] at hb
          have h0' : (fr != 0) = true := by simpa using h0
          have HB := Lib.hid hb
          clear hb h0
          go_wp2_with fail
          refine region_later (by kernel_rfl) (by kernel_rfl) ?_
          repeat (go_big_quiet_step ((with_reducible refine Gives.later (FK _ Sx))))
          refine wpQuiet_nil ?_
          rintro _ ⟨z2, rfl⟩
          go_wp2_with fail
          go_returns
          exact ⟨by rw [HB.out]; rfl, Lx⟩
      · rw [if_neg hmm] at hb
        have h0' : (l[k].mach != (m : Int)) = true := by simpa using hmm
        generalize l[k].mach = xm at *
        have HB := Lib.hid hb
        clear hb hmm hx0 hx1 hrs hrl'
        go_wp2_with fail
        go_roundg (l.length - (k + 1))
        case measure => omega
        case rel => exact ⟨k + 1, b, hlt, Nat.le_refl _, rfl, by go_num, Lx, HB.out⟩
    · have hkl : k = l.length := by omega
      rw [hkl, List.drop_length] at hb
      have HB := Lib.hid hb
      clear hb hkl
      go_wp2_with fail
      go_returns
      exact ⟨by rw [HB.out]; rfl, Lx⟩
end Go.Proofs.YtpaojgfmffkodaaGreat
/- Layer 52: asked; the order of the heap. -/
namespace Go.Proofs.YtpaojgfmffkodaaGreat
set_option linter.unusedVariables false
set_option linter.unusedSimpArgs false
open Go.RowKit Go.Sort
attribute [local go_sem ↓] Go.wp_at_zero Go.wp_at_succ
def jobIn (L : List JobR) (j : Int) : Bool := decide (0 ≤ j) && decide (j ≤ (L.length : Int) - 1)
def askedE (L : List JobR) (l : List SlotR) (j : Int) : Int := if jobIn L j = false then 6 else if l.any (fun y => y.job == j) = true then 7 else 0
set_option maxRecDepth 100000 in
set_option maxHeartbeats 1000000 in
theorem asked_any (A : Option Addr) (c : Nat) (L : List JobR) (B : Option Addr) (d : Nat) (l : List SlotR) (j : Int) (w : World) (hjl : L.length < 4611686018427387904) (hl : IsSlots w B d l) (hll : l.length < 4611686018427387904) :
    Gives Tryz.prog 90 #[.slice A L.length c, .slice B l.length d, .int .i64 j] w (.int .i64 (askedE L l j)) := by
  apply Gives.ret
  have I1 := fun W => in_any j 0 ((L.length : Int) - 1) W
  have AS := fun b W (hW : SinceOf w W) (hb : W.cell? ⟨b, 0, none⟩ = some (.int .i64 j)) (hO : Nonempty (Old W b)) => containsAsked_any (.pointer (some ⟨b, 0, none⟩)) (fun y => y.job == j) B d l W (hl.of hW) hll (fun W' hW' y _ => by
    obtain ⟨z, rfl⟩ := hW'
    exact askedFn_any j y b z.wd (by rw [Since.cell]; exact hb) inferInstance)
  have e : askedE L l j = if jobIn L j = false then 6 else if l.any (fun y => y.job == j) = true then 7 else 0 := rfl
  have ej : jobIn L j = (decide (0 ≤ j) && decide (j ≤ (L.length : Int) - 1)) := rfl
  rw [e, ej]
  generalize (decide (0 ≤ j) && decide (j ≤ (L.length : Int) - 1)) = q1 at *
  generalize l.any (fun y => y.job == j) = q2 at *
  clear hl e ej
  cases q1
  · rw [if_pos rfl]
    go_enter Tryz.func90, Tryz.ntmps90
    go_wp2_with fail
    refine (I1 _).mono ?_
    rintro e w' ⟨rfl, rfl⟩
    go_wp2_with fail
    go_returns
    exact ⟨rfl, Lx⟩
  · rw [if_neg (by simp)]
    cases q2
    · rw [if_neg (by simp)]
      go_enter Tryz.func90, Tryz.ntmps90
      go_wp2_with fail
      refine (I1 _).mono ?_
      rintro e w' ⟨rfl, rfl⟩
      go_wp2_with fail
      refine (AS _ _ Sx (by simp [go_sem]) inferInstance).calls.mono ?_
      rintro e _ ⟨rfl, x1, rfl⟩
      go_wp2_with fail
      go_returns
      exact ⟨rfl, Lx⟩
    · rw [if_pos rfl]
      go_enter Tryz.func90, Tryz.ntmps90
      go_wp2_with fail
      refine (I1 _).mono ?_
      rintro e w' ⟨rfl, rfl⟩
      go_wp2_with fail
      refine (AS _ _ Sx (by simp [go_sem]) inferInstance).calls.mono ?_
      rintro e _ ⟨rfl, x1, rfl⟩
      go_wp2_with fail
      go_returns
      exact ⟨rfl, Lx⟩
end Go.Proofs.YtpaojgfmffkodaaGreat
/- Layer 52: the conversion of schedules. -/
namespace Go.Proofs.YtpaojgfmffkodaaGreat
set_option linter.unusedVariables false
set_option linter.unusedSimpArgs false
open Go.RowKit Go.Sort
attribute [local go_sem ↓] Go.wp_at_zero Go.wp_at_succ
theorem encS_one (p : SlotR) : ∀ u ∈ encS p, u.oneCell' = true := by
  intro u hu; simp [encS] at hu; rcases hu with rfl | rfl | rfl | rfl <;> rfl
theorem infoSlot : (Tryz.prog.info? 76).map (fun i => (i.zero, i.size, i.bytes)) = some (some (.agg #[.int .i64 0, .int .i64 0, .int .i64 0, .int .i64 0]), 4, 32) := by kernel_rfl
theorem rowS_at (W : World) (g : Nat) (x : SlotR) (t : TypeId) (hg : W.heap.size = g) : IsSlots (W.alloc (.cells #[.int .i64 x.job, .int .i64 x.mach, .int .i64 x.start, .int .i64 x.stop] t)) (some ⟨g, 0, none⟩) 1 [x] := by
  subst hg
  refine ⟨(by intro h; cases h), .inr ⟨_, 0, rfl, fun i hi j u hu => ?_, inferInstance⟩⟩
  have hi0 : i = 0 := by simp at hi; omega
  subst hi0
  have hj : j < 4 := by
    have := (List.getElem?_eq_some_iff.1 hu).1
    rwa [show ([x][0]'hi) = x from rfl, encS_len] at this
  match j, hj with
  | 0, _ => simp [encS] at hu; subst hu; simp [go_sem]
  | 1, _ => simp [encS] at hu; subst hu; simp [go_sem]
  | 2, _ => simp [encS] at hu; subst hu; simp [go_sem]
  | 3, _ => simp [encS] at hu; subst hu; simp [go_sem]
set_option maxRecDepth 100000 in
set_option maxHeartbeats 4000000 in
theorem slots_any (A : Option Addr) (c : Nat) (l : List SlotR) (w : World) (hl : IsSlots w A c l) (hll : l.length ≤ 1000000) :
    Calls Tryz.prog 14 #[.slice A l.length c] w fun e w' => ∃ A' c', e = .returned (.slice A' l.length c') ∧ Owns encS 4 w.heap.size 76 w' A' c' l ∧ SinceOf w w' := by
  have H := Lib.hid hl
  clear hl
  obtain ⟨i0, hi, hz0, hz1, hz2⟩ := info_parts infoSlot
  have HI := Lib.hid (And.intro hi (And.intro hz0 (And.intro hz1 hz2)))
  clear hi hz0 hz1 hz2
  go_enter Tryz.func14, Tryz.ntmps14
  go_wp2_with fail
  go_loopg [3, 8] l.length (fun gas s3 s8 wr => ∃ (k : Nat) (A2 : Option Addr) (c2 : Nat), k ≤ l.length ∧ l.length - k ≤ gas ∧ s3 = .slice A2 (l.take k).length c2 ∧ s8 = .int .i64 k ∧ Owns encS 4 w.heap.size 76 wr A2 c2 (l.take k) ∧ SinceOf w wr)
  case atStart => exact ⟨0, none, 0, by omega, by omega, rfl, rfl, Owns.nil _ _ _ _ _, SinceOf.refl _⟩
  case round =>
    obtain ⟨k, A2, c2, hk, hgas, rfl, rfl, hown, ⟨z, rfl⟩⟩ := hrel
    by_cases hlt : k < l.length
    · have hr0 := H.out.of (w' := z.wd) ⟨z, rfl⟩
      obtain ⟨g, off, rfl, hr⟩ := hr0.at_ (by omega)
      have hO := hr.there
      have s0 := hr.s0 k hlt
      have s1 := hr.s1 k hlt
      have s2 := hr.s2 k hlt
      have s3 := hr.s3 k hlt
      have hts := List.take_succ_eq_append_getElem hlt
      have htl : (l.take k).length = k := by rw [List.length_take]; omega
      generalize l[k] = x at *
      have HH := Lib.hid (And.intro hown (And.intro hts htl))
      generalize l.take k = m at *
      clear hown hts htl hr hr0
      go_wp2_with (at_builtin; refine wpList_append_row rfl (.tmp 12) (.tmp 14) 39 rfl encS_len (by omega) encS_one i0 _ 32 Tryz.underlying39 HI.out.1 HI.out.2.1 HI.out.2.2.1 HI.out.2.2.2 rfl (l := m) (A := A2) (c := c2) (base := w.heap.size) rfl ((HH.out.1.alloc _).alloc _) (m := [x]) rfl (rowS_at _ _ x _ (by first | rfl | simp)) (by have := HH.out.2.2; unfold maxLen; simp; omega) (by have := HH.out.2.2; simp; omega) (by have := z.size; simp; omega) ?_; intro A3 c3 w3 hown3 hgr3 hbl3)
      go_roundg (l.length - (k + 1))
      case measure => omega
      case rel =>
        refine ⟨k + 1, A3, c3, hlt, Nat.le_refl _, by rw [HH.out.2.1, List.length_append]; rfl, by go_num, by rw [HH.out.2.1]; exact hown3, ?_⟩
        exact SinceOf.grown (SinceOf.alloc (SinceOf.alloc ⟨z, rfl⟩ _) _) hgr3 (fun b hb => (HH.out.1.below b hb).1)
    · have hkl : k = l.length := by omega
      have e : l.take k = l := by rw [hkl, List.take_length]
      rw [e] at hown
      rw [e]
      have HH := Lib.hid hown
      clear hown e hkl
      go_wp2_with fail
      go_returns
      exact ⟨A2, c2, rfl, HH.out, ⟨z, rfl⟩⟩
end Go.Proofs.YtpaojgfmffkodaaGreat
/- Layer 52: the conversions of schedules back, and of jobs. -/
namespace Go.Proofs.YtpaojgfmffkodaaGreat
set_option linter.unusedVariables false
set_option linter.unusedSimpArgs false
open Go.RowKit Go.Sort
attribute [local go_sem ↓] Go.wp_at_zero Go.wp_at_succ
theorem infoSlotR : (Tryz.prog.info? 77).map (fun i => (i.zero, i.size, i.bytes)) = some (some (.agg #[.int .i64 0, .int .i64 0, .int .i64 0, .int .i64 0]), 4, 32) := by kernel_rfl
theorem encJ_len (p : JobR) : (encJ p).length = 6 := rfl
theorem encJ_one (p : JobR) : ∀ u ∈ encJ p, u.oneCell' = true := by
  intro u hu; simp [encJ] at hu; rcases hu with rfl | rfl | rfl | rfl | rfl | rfl <;> rfl
theorem infoJob : (Tryz.prog.info? 85).map (fun i => (i.zero, i.size, i.bytes)) = some (some (.agg #[.slice none 0 0, .int .i64 0, .int .i64 0, .int .i64 0, .int .i64 0, .int .i64 0]), 6, 64) := by kernel_rfl
theorem rowJ_at (W : World) (g : Nat) (x : JobR) (t : TypeId) (hg : W.heap.size = g) : IsRow encJ 6 (W.alloc (.cells #[.slice x.A x.ms.length x.c, .int .i64 x.dur, .int .i64 x.cls, .int .i64 x.rel, .int .i64 x.due, .int .i64 x.ord] t)) (some ⟨g, 0, none⟩) 1 [x] := by
  subst hg
  refine ⟨(by intro h; cases h), .inr ⟨_, 0, rfl, fun i hi j u hu => ?_, inferInstance⟩⟩
  have hi0 : i = 0 := by simp at hi; omega
  subst hi0
  have hj : j < 6 := by
    have := (List.getElem?_eq_some_iff.1 hu).1
    rwa [show ([x][0]'hi) = x from rfl, encJ_len] at this
  match j, hj with
  | 0, _ => simp [encJ] at hu; subst hu; simp [go_sem]
  | 1, _ => simp [encJ] at hu; subst hu; simp [go_sem]
  | 2, _ => simp [encJ] at hu; subst hu; simp [go_sem]
  | 3, _ => simp [encJ] at hu; subst hu; simp [go_sem]
  | 4, _ => simp [encJ] at hu; subst hu; simp [go_sem]
  | 5, _ => simp [encJ] at hu; subst hu; simp [go_sem]
set_option maxRecDepth 100000 in
set_option maxHeartbeats 4000000 in
theorem theirs_any (A : Option Addr) (c : Nat) (l : List SlotR) (w : World) (hl : IsSlots w A c l) (hll : l.length ≤ 1000000) :
    Calls Tryz.prog 50 #[.slice A l.length c] w fun e w' => ∃ A' c', e = .returned (.slice A' l.length c') ∧ Owns encS 4 w.heap.size 77 w' A' c' l ∧ SinceOf w w' := by
  have H := Lib.hid hl
  clear hl
  obtain ⟨i0, hi, hz0, hz1, hz2⟩ := info_parts infoSlotR
  have HI := Lib.hid (And.intro hi (And.intro hz0 (And.intro hz1 hz2)))
  clear hi hz0 hz1 hz2
  go_enter Tryz.func50, Tryz.ntmps50
  go_wp2_with fail
  go_loopg [3, 8] l.length (fun gas s3 s8 wr => ∃ (k : Nat) (A2 : Option Addr) (c2 : Nat), k ≤ l.length ∧ l.length - k ≤ gas ∧ s3 = .slice A2 (l.take k).length c2 ∧ s8 = .int .i64 k ∧ Owns encS 4 w.heap.size 77 wr A2 c2 (l.take k) ∧ SinceOf w wr)
  case atStart => exact ⟨0, none, 0, by omega, by omega, rfl, rfl, Owns.nil _ _ _ _ _, SinceOf.refl _⟩
  case round =>
    obtain ⟨k, A2, c2, hk, hgas, rfl, rfl, hown, ⟨z, rfl⟩⟩ := hrel
    by_cases hlt : k < l.length
    · have hr0 := H.out.of (w' := z.wd) ⟨z, rfl⟩
      obtain ⟨g, off, rfl, hr⟩ := hr0.at_ (by omega)
      have hO := hr.there
      have s0 := hr.s0 k hlt
      have s1 := hr.s1 k hlt
      have s2 := hr.s2 k hlt
      have s3 := hr.s3 k hlt
      have hts := List.take_succ_eq_append_getElem hlt
      have htl : (l.take k).length = k := by rw [List.length_take]; omega
      generalize l[k] = x at *
      have HH := Lib.hid (And.intro hown (And.intro hts htl))
      generalize l.take k = m at *
      clear hown hts htl hr hr0
      go_wp2_with (at_builtin; refine wpList_append_row rfl (.tmp 12) (.tmp 14) 29 rfl encS_len (by omega) encS_one i0 _ 32 Tryz.underlying29 HI.out.1 HI.out.2.1 HI.out.2.2.1 HI.out.2.2.2 rfl (l := m) (A := A2) (c := c2) (base := w.heap.size) rfl ((HH.out.1.alloc _).alloc _) (m := [x]) rfl (rowS_at _ _ x _ (by first | rfl | simp)) (by have := HH.out.2.2; unfold maxLen; simp; omega) (by have := HH.out.2.2; simp; omega) (by have := z.size; simp; omega) ?_; intro A3 c3 w3 hown3 hgr3 hbl3)
      go_roundg (l.length - (k + 1))
      case measure => omega
      case rel =>
        refine ⟨k + 1, A3, c3, hlt, Nat.le_refl _, by rw [HH.out.2.1, List.length_append]; rfl, by go_num, by rw [HH.out.2.1]; exact hown3, ?_⟩
        exact SinceOf.grown (SinceOf.alloc (SinceOf.alloc ⟨z, rfl⟩ _) _) hgr3 (fun b hb => (HH.out.1.below b hb).1)
    · have hkl : k = l.length := by omega
      have e : l.take k = l := by rw [hkl, List.take_length]
      rw [e] at hown
      rw [e]
      have HH := Lib.hid hown
      clear hown e hkl
      go_wp2_with fail
      go_returns
      exact ⟨A2, c2, rfl, HH.out, ⟨z, rfl⟩⟩
set_option maxRecDepth 100000 in
set_option maxHeartbeats 4000000 in
theorem jobs_any (A : Option Addr) (c : Nat) (l : List JobR) (w : World) (hl : IsRow encJ 6 w A c l) (hll : l.length ≤ 1000000) :
    Calls Tryz.prog 13 #[.slice A l.length c] w fun e w' => ∃ A' c', e = .returned (.slice A' l.length c') ∧ Owns encJ 6 w.heap.size 85 w' A' c' l ∧ SinceOf w w' := by
  have H := Lib.hid hl
  clear hl
  obtain ⟨i0, hi, hz0, hz1, hz2⟩ := info_parts infoJob
  have HI := Lib.hid (And.intro hi (And.intro hz0 (And.intro hz1 hz2)))
  clear hi hz0 hz1 hz2
  go_enter Tryz.func13, Tryz.ntmps13
  go_wp2_with fail
  go_loopg [3, 8] l.length (fun gas s3 s8 wr => ∃ (k : Nat) (A2 : Option Addr) (c2 : Nat), k ≤ l.length ∧ l.length - k ≤ gas ∧ s3 = .slice A2 (l.take k).length c2 ∧ s8 = .int .i64 k ∧ Owns encJ 6 w.heap.size 85 wr A2 c2 (l.take k) ∧ SinceOf w wr)
  case atStart => exact ⟨0, none, 0, by omega, by omega, rfl, rfl, Owns.nil _ _ _ _ _, SinceOf.refl _⟩
  case round =>
    obtain ⟨k, A2, c2, hk, hgas, rfl, rfl, hown, ⟨z, rfl⟩⟩ := hrel
    by_cases hlt : k < l.length
    · have hr0 := H.out.of (w' := z.wd) ⟨z, rfl⟩
      obtain ⟨g, off, rfl, hr⟩ := hr0.at_ (by omega)
      have hO := hr.there
      have s0 := hr.j0 k hlt
      have s1 := hr.j1 k hlt
      have s2 := hr.j2 k hlt
      have s3 := hr.j3 k hlt
      have s4 := hr.j4 k hlt
      have s5 := hr.j5 k hlt
      have hts := List.take_succ_eq_append_getElem hlt
      have htl : (l.take k).length = k := by rw [List.length_take]; omega
      generalize l[k] = x at *
      have HH := Lib.hid (And.intro hown (And.intro hts htl))
      generalize l.take k = m at *
      clear hown hts htl hr hr0
      go_wp2_with (at_builtin; refine wpList_append_row rfl (.tmp 12) (.tmp 14) 38 rfl encJ_len (by omega) encJ_one i0 _ 64 Tryz.underlying38 HI.out.1 HI.out.2.1 HI.out.2.2.1 HI.out.2.2.2 rfl (l := m) (A := A2) (c := c2) (base := w.heap.size) rfl ((HH.out.1.alloc _).alloc _) (m := [x]) rfl (rowJ_at _ _ x _ (by first | rfl | simp)) (by have := HH.out.2.2; unfold maxLen; simp; omega) (by have := HH.out.2.2; simp; omega) (by have := z.size; simp; omega) ?_; intro A3 c3 w3 hown3 hgr3 hbl3)
      go_roundg (l.length - (k + 1))
      case measure => omega
      case rel =>
        refine ⟨k + 1, A3, c3, hlt, Nat.le_refl _, by rw [HH.out.2.1, List.length_append]; rfl, by go_num, by rw [HH.out.2.1]; exact hown3, ?_⟩
        exact SinceOf.grown (SinceOf.alloc (SinceOf.alloc ⟨z, rfl⟩ _) _) hgr3 (fun b hb => (HH.out.1.below b hb).1)
    · have hkl : k = l.length := by omega
      have e : l.take k = l := by rw [hkl, List.take_length]
      rw [e] at hown
      rw [e]
      have HH := Lib.hid hown
      clear hown e hkl
      go_wp2_with fail
      go_returns
      exact ⟨A2, c2, rfl, HH.out, ⟨z, rfl⟩⟩
end Go.Proofs.YtpaojgfmffkodaaGreat
/- Layer 52: the law's near. -/
namespace Go.Proofs.YtpaojgfmffkodaaGreat
set_option linter.unusedVariables false
set_option linter.unusedSimpArgs false
open Go.RowKit Go.Sort
attribute [local go_sem ↓] Go.wp_at_zero Go.wp_at_succ
def farB (x : SlotR) : Bool := (decide (20000 < x.start) && decide (x.start ≤ 1000000)) || (decide (20000 < x.stop) && decide (x.stop ≤ 1000000))
end Go.Proofs.YtpaojgfmffkodaaGreat
/- Layer 52: the reference's Few. -/
namespace Go.Proofs.YtpaojgfmffkodaaGreat
set_option linter.unusedVariables false
set_option linter.unusedSimpArgs false
open Go.RowKit Go.Sort
attribute [local go_sem ↓] Go.wp_at_zero Go.wp_at_succ
theorem all_drop {α : Type} (f : α → Bool) {l : List α} {k : Nat} (h : k < l.length) : (l.drop k).all f = (f l[k] && (l.drop (k + 1)).all f) := by
  rw [List.drop_eq_getElem_cons h, List.all_cons]
def few1 (x : CalR) : Bool := decide (x.S.length ≤ 25) && decide (x.D.length ≤ 25)
def few2 (j : JobR) : Bool := decide ((j.ms.length : Int) ≤ 8)
def fewP (s : ShopR) (L : List JobR) : Bool := s.cals.all few1 && (L.all few2 && (decide ((s.cals.length : Int) ≤ 3) && (decide ((L.length : Int) ≤ 8) && decide ((s.rows.length : Int) ≤ 9))))
set_option maxRecDepth 100000 in
set_option maxHeartbeats 4000000 in
theorem few52_any (s : ShopR) (A : Option Addr) (c : Nat) (L : List JobR) (w : World) (hs : IsShop w s) (h : IsJobs w A c L) :
    Gives Tryz.prog 29 #[shopV s, .slice A L.length c] w (.bool (fewP s L)) := by
  apply Gives.ret
  have hcl := hs.cals.len
  have hrl := hs.rows.len
  have hjl := h.len
  obtain ⟨sA, sc, cals, sB, sd, R, most⟩ := s
  obtain ⟨res, hres⟩ : ∃ v, v = fewP ⟨sA, sc, cals, sB, sd, R, most⟩ L := ⟨_, rfl⟩
  rw [← hres]
  have H := Lib.hid (And.intro hs (And.intro h hres))
  simp only at hcl hrl
  clear hs h hres
  go_enter Tryz.func29, Tryz.ntmps29
  go_wp2_with fail
  go_loopg [5] cals.length (fun gas s5 wr => ∃ k : Nat, k ≤ cals.length ∧ cals.length - k ≤ gas ∧ s5 = .int .i64 k ∧ LaterOf (w.alloc (.cells #[.slice sA cals.length sc, .slice sB R.length sd, .int .i64 most] 25)) wr ∧ cals.all few1 = (cals.drop k).all few1)
  case atStart => exact ⟨0, by omega, by omega, rfl, Lx, by rw [List.drop_zero]⟩
  case round =>
    obtain ⟨k, hk, hgas, rfl, ⟨z, rfl⟩, hall⟩ := hrel
    by_cases hlt : k < cals.length
    · rw [all_drop few1 hlt] at hall
      have hc := H.out.1.cals.of (w' := z.wd) Sx
      have F := few_any (hc.all _ (List.getElem_mem hlt))
      obtain ⟨g, off, hAc, hr⟩ := hc.row.at_ (by show 0 < cals.length; omega)
      simp only at hAc
      subst hAc
      have hO := hr.there
      have k0 := hr.k0 k hlt
      have k1 := hr.k1 k hlt
      have k2 := hr.k2 k hlt
      have ef : few1 cals[k] = (decide (cals[k].S.length ≤ 25) && decide (cals[k].D.length ≤ 25)) := rfl
      simp only at F k0 k1 k2
      rw [← ef] at F
      generalize cals[k] = x at *
      generalize few1 x = q at *
      have HA := Lib.hid hall
      clear hall hc hr ef
      cases q
      · go_wp2_with fail
        refine F.calls.mono ?_
        rintro e _ ⟨rfl, x1, rfl⟩
        go_wp2_with fail
        go_returns
        exact ⟨by rw [H.out.2.2]; unfold fewP; rw [HA.out]; rfl, Lx⟩
      · go_wp2_with fail
        refine F.calls.mono ?_
        rintro e _ ⟨rfl, x1, rfl⟩
        go_wp2_with fail
        go_roundg (cals.length - (k + 1))
        case measure => omega
        case rel => exact ⟨k + 1, hlt, Nat.le_refl _, by go_num, Lx, by rw [HA.out]; simp⟩
    · have hkl : k = cals.length := by omega
      rw [hkl, List.drop_length] at hall
      have HA := Lib.hid hall
      clear hall hkl
      go_wp2_with fail
      go_loopg [6] L.length (fun gas s6 wr => ∃ i : Nat, i ≤ L.length ∧ L.length - i ≤ gas ∧ s6 = .int .i64 i ∧ z.wd = wr ∧ L.all few2 = (L.drop i).all few2)
      case atStart => exact ⟨0, by omega, by omega, rfl, rfl, by rw [List.drop_zero]⟩
      case round =>
        obtain ⟨i, hi, hgas2, rfl, rfl, hall2⟩ := hrel
        by_cases hlti : i < L.length
        · rw [all_drop few2 hlti] at hall2
          have hj := H.out.2.1.of (w' := z.wd) Sx
          obtain ⟨g, off, rfl, hr⟩ := hj.row.at_ (by omega)
          have hO := hr.there
          have j0 := hr.j0 i hlti
          have hml := (hj.all _ (List.getElem_mem hlti)).2
          have ef : few2 L[i] = decide ((L[i].ms.length : Int) ≤ 8) := rfl
          generalize L[i] = x at *
          rw [ef] at hall2
          clear hr hj ef
          by_cases h8 : x.ms.length ≤ 8
          · have e1 : decide ((x.ms.length : Int) ≤ 8) = true := by simp; omega
            rw [e1, Bool.true_and] at hall2
            have HB := Lib.hid hall2
            clear hall2
            go_wp2_with fail
            go_roundg (L.length - (i + 1))
            case measure => omega
            case rel => exact ⟨i + 1, hlti, Nat.le_refl _, by go_num, rfl, HB.out⟩
          · have e1 : decide ((x.ms.length : Int) ≤ 8) = false := by simp; omega
            rw [e1, Bool.false_and] at hall2
            have HB := Lib.hid hall2
            have h9 : 8 < x.ms.length := by omega
            clear hall2 h8
            go_wp2_with fail
            go_returns
            exact ⟨by rw [H.out.2.2]; unfold fewP; rw [HB.out, Bool.false_and, Bool.and_false]; rfl, Lx⟩
        · have hil : i = L.length := by omega
          rw [hil, List.drop_length] at hall2
          have HB := Lib.hid hall2
          have hres : res = (decide ((cals.length : Int) ≤ 3) && (decide ((L.length : Int) ≤ 8) && decide ((R.length : Int) ≤ 9))) := by
            rw [H.out.2.2]; unfold fewP; rw [HA.out, HB.out]; simp
          have HR := Lib.hid hres
          clear hall2 hil hres
          by_cases h3 : cals.length ≤ 3
          · by_cases h8 : L.length ≤ 8
            · go_wp2_with fail
              go_returns
              exact ⟨by rw [HR.out, show decide ((cals.length : Int) ≤ 3) = true from by simp; omega, show decide ((L.length : Int) ≤ 8) = true from by simp; omega, Bool.true_and, Bool.true_and]; rfl, Lx⟩
            · go_wp2_with fail
              go_returns
              exact ⟨by rw [HR.out]; simp; omega, Lx⟩
          · go_wp2_with fail
            go_returns
            exact ⟨by rw [HR.out]; simp; omega, Lx⟩
end Go.Proofs.YtpaojgfmffkodaaGreat
/- Layer 52: the law's small. -/
namespace Go.Proofs.YtpaojgfmffkodaaGreat
set_option linter.unusedVariables false
set_option linter.unusedSimpArgs false
open Go.RowKit Go.Sort
attribute [local go_sem ↓] Go.wp_at_zero Go.wp_at_succ
def lateB (j : JobR) : Bool := decide (20000 < j.rel) && decide (j.rel ≤ 1000000)
end Go.Proofs.YtpaojgfmffkodaaGreat
/- Layer 52: equality of costs. -/
namespace Go.Proofs.YtpaojgfmffkodaaGreat
set_option linter.unusedVariables false
set_option linter.unusedSimpArgs false
open Go.RowKit Go.Sort
def eqC (a0 a1 a2 a3 b0 b1 b2 b3 : Int) : Bool := a0 == b0 && (a1 == b1 && (a2 == b2 && a3 == b3))
theorem equalIn_cost (w : World) (a0 a1 a2 a3 b0 b1 b2 b3 : Int) : (Op.equalIn 10000 158 (costV a0 a1 a2 a3) (costV b0 b1 b2 b3)).run Tryz.prog w = .ok (eqC a0 a1 a2 a3 b0 b1 b2 b3) w := by
  have u3 := Tryz.underlying3
  have a3' := Tryz.isAgg3
  have z3 := Tryz.sizeOf3
  have hS : Tryz.prog.underlying 158 = some (.struct (Tryz.prog.fieldsOf 158)) := by kernel_rfl
  have hp : Tryz.prog.stoodInHeld 158 = false := by kernel_rfl
  rw [show (10000 : Nat) = 9999 + 1 from rfl, run_equalIn_agg w 9999 158 _ _ hS hp]
  simp only [Program.fieldsOf, Tryz.underlying158]
  unfold eqC
  go_simp
  by_cases h1 : a0 = b0 <;> by_cases h2 : a1 = b1 <;> by_cases h3 : a2 = b2 <;> by_cases h4 : a3 = b3 <;> simp [h1, h2, h3, h4]
@[go_sem ↓] theorem neq_cost (w : World) (a0 a1 a2 a3 b0 b1 b2 b3 : Int) : (binOp .neq 158 (costV a0 a1 a2 a3) (costV b0 b1 b2 b3)).run Tryz.prog w = .ok (.bool (!eqC a0 a1 a2 a3 b0 b1 b2 b3)) w := by
  rw [run_neq_struct, equalIn_cost]; rfl
@[go_sem ↓] theorem eqGuard_cost (w : World) (op : BinOp) (x y : Operand) (a0 a1 a2 a3 b0 b1 b2 b3 : Int) : (eqGuard op 158 x y (costV a0 a1 a2 a3) (costV b0 b1 b2 b3)).run Tryz.prog w = .ok () w :=
  run_eqGuard_agg w op _ x y _ _ (by kernel_rfl)
end Go.Proofs.YtpaojgfmffkodaaGreat
