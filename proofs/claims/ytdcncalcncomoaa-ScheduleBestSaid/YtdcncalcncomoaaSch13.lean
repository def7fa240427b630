/- Layer 52: beginning. -/
import Derived.Test.YtdcncalcncomoaaSch11
namespace Go.Proofs.Ytdcncalcncomoaa
open Go.RowKit Go.Sort
set_option linter.unusedVariables false
attribute [local go_sem ↓] Go.wp_at_zero Go.wp_at_succ

/-- The earliest time for a job on a machine behind the slots of a schedule; none: no time. -/
def beginV (s : ShopR) (L : List JobR) (jb m : Int) : Int → List SlotR → Option Int
  | b, [] => some b
  | b, x :: r => if x.mach = m then (if (finishAt s m x.stop (setupAt s L x.job jb)).2 = 0 then beginV s L jb m (imax b (finishAt s m x.stop (setupAt s L x.job jb)).1) r else none) else beginV s L jb m b r
theorem beginV_drop (s : ShopR) (L : List JobR) (jb m b : Int) {l : List SlotR} {k : Nat} (h : k < l.length) : beginV s L jb m b (l.drop k) = if l[k].mach = m then (if (finishAt s m l[k].stop (setupAt s L l[k].job jb)).2 = 0 then beginV s L jb m (imax b (finishAt s m l[k].stop (setupAt s L l[k].job jb)).1) (l.drop (k + 1)) else none) else beginV s L jb m b (l.drop (k + 1)) := by
  rw [List.drop_eq_getElem_cons h]; rfl
def beginR (o : Option Int) : Value := match o with
  | some b => .tuple #[.int .i64 b, .bool true]
  | none => .tuple #[.int .i64 0, .bool false]
set_option maxRecDepth 100000 in
set_option maxHeartbeats 4000000 in
theorem beginning_any (s : ShopR) (A : Option Addr) (c : Nat) (L : List JobR) (B : Option Addr) (d : Nat) (l : List SlotR) (jb m : Nat) (w : World) (hs : IsShop w s) (h : IsJobs w A c L) (gp : GoodP s L) (hl : IsSlots w B d l) (hll : l.length < 4611686018427387904) (hn : NamedS s L l) (hjb : jb < L.length) (hm : m < s.cals.length) :
    Gives Try.prog 71 #[shopV s, .slice A L.length c, .slice B l.length d, .int .i64 jb, .int .i64 m] w (beginR (beginV s L jb m (jobAt L jb).rel l)) := by
  apply Gives.ret
  have hcl := hs.cals.len
  have hrl := hs.rows.len
  have hjl := h.len
  have hka := hs.cals.all _ (List.getElem_mem hm)
  have FI := fun t k W hW => finish_any (w := W) t k (hka.of hW)
  have ek : ∀ t k, finishAt s m t k = finishV s.cals[m].P s.cals[m].S s.cals[m].D t k := fun t k => by unfold finishAt; rw [calAt_at hm]
  obtain ⟨gc, oc, hAc, hrc⟩ := hs.cals.row.at_ (by omega)
  obtain ⟨gj, oj, hAj, hrj⟩ := h.row.at_ (by omega)
  have hOc := hrc.there
  have hOj := hrj.there
  have c0 := hrc.k0 m hm
  have c1 := hrc.k1 m hm
  have c2 := hrc.k2 m hm
  have i2 := hrj.j2 jb hjb
  have i3 := hrj.j3 jb hjb
  obtain ⟨cb0, cb1⟩ := gp.cls _ (List.getElem_mem hjb)
  obtain ⟨q, hq⟩ : ∃ q : Nat, L[jb].cls = q := ⟨L[jb].cls.toNat, by omega⟩
  have hq' : q < s.rows.length := by omega
  rw [hq] at i2
  have erel : (jobAt L jb).rel = L[jb].rel := by rw [jobAt_at hjb]
  rw [erel]
  generalize hrelv : L[jb].rel = rel at *
  obtain ⟨res, hres⟩ : ∃ v, v = beginV s L jb m rel l := ⟨_, rfl⟩
  rw [← hres]
  obtain ⟨sA, sc, cals, sB, sd, R, most⟩ := s
  simp only at *
  obtain ⟨gr, og, hAr, hrr⟩ := hs.rows.row.at_ (by show 0 < R.length; omega)
  have hOr := hrr.there
  simp only at hAr
  subst hAc hAj hAr
  have H := Lib.hid (And.intro hs (And.intro h (And.intro gp (And.intro hl (And.intro hn (And.intro hres (And.intro hrr (And.intro hrj (And.intro hq ek)))))))))
  generalize cals[m] = K at *
  clear hs h gp hl hn hres hrr hrj hrc hq ek erel hka hrelv cb0 cb1
  go_enter Try.func71, Try.ntmps71
  go_wp2_with fail
  go_loopg [12, 24] l.length (fun gas s12 s24 wr => ∃ (k : Nat) (b : Int), k ≤ l.length ∧ l.length - k ≤ gas ∧ s12 = .int .i64 b ∧ s24 = .int .i64 k ∧ LaterOf (w.alloc (.cells #[.slice (some ⟨gc, oc, none⟩) cals.length sc, .slice (some ⟨gr, og, none⟩) R.length sd, .int .i64 most] 40)) wr ∧ res = beginV ⟨some ⟨gc, oc, none⟩, sc, cals, some ⟨gr, og, none⟩, sd, R, most⟩ L jb m b (l.drop k))
  case atStart => exact ⟨0, rel, by omega, by omega, rfl, rfl, by (repeat (first | (with_reducible exact LaterOf.refl _) | (with_reducible refine LaterOf.alloc ?_ _) | (with_reducible refine LaterOf.drew ?_) | (with_reducible refine LaterOf.drewN ?_ _) | (with_reducible refine LaterOf.later ?_ _) | (with_reducible refine LaterOf.setCell ?_ (by first | exact Nat.le_refl _ | (simp; done) | omega | (simp; omega)) _))), by rw [List.drop_zero]; exact H.out.2.2.2.2.2.1⟩
  case round =>
    obtain ⟨k, b, hk, hgas, rfl, rfl, ⟨z, rfl⟩, hb⟩ := hrel
    by_cases hlt : k < l.length
    · rw [beginV_drop _ _ _ _ _ hlt] at hb
      have hrl' := H.out.2.2.2.1.of (w' := z.wd) (by (repeat (first | (with_reducible exact SinceOf.refl _) | (with_reducible assumption) | (with_reducible refine SinceOf.alloc ?_ _) | (with_reducible refine SinceOf.drew ?_) | (with_reducible refine SinceOf.drewN ?_ _) | (with_reducible refine SinceOf.later ?_ _) | (with_reducible refine SinceOf.further ?_ _) | (with_reducible refine SinceOf.setCell ?_ (by first | exact Nat.le_refl _ | (simp; done) | omega | (simp; omega)) _))))
      obtain ⟨gs, os, rfl, hrs⟩ := hrl'.at_ (by omega)
      have hOs := hrs.there
      have s0 := hrs.s0 k hlt
      have s1 := hrs.s1 k hlt
      have s2 := hrs.s2 k hlt
      have s3 := hrs.s3 k hlt
      obtain ⟨⟨hx0, hx1⟩, -⟩ := nameB_iff.1 (H.out.2.2.2.2.1 _ (List.getElem_mem hlt))
      by_cases hmm : l[k].mach = m
      · rw [if_pos hmm] at hb
        obtain ⟨ja, hja⟩ : ∃ p : Nat, l[k].job = p := ⟨l[k].job.toNat, by omega⟩
        have hja' : ja < L.length := by omega
        obtain ⟨ca0, ca1⟩ := H.out.2.2.1.cls _ (List.getElem_mem hja')
        obtain ⟨p, hp⟩ : ∃ p : Nat, L[ja].cls = p := ⟨L[ja].cls.toNat, by omega⟩
        have hp' : p < R.length := by have h9 : L[ja].cls < (R.length : Int) := ca1; omega
        have hz := H.out.2.2.1.sz p hp'
        have hrw := H.out.1.rows.all _ (List.getElem_mem hp')
        try simp only at hz hrw
        obtain ⟨gx, ox, hAx, hrx⟩ := hrw.1.at_ (by omega)
        have hOx := hrx.there
        have x0 := hrx.n0 q (by omega)
        rw [← get2_at hp' (by omega)] at x0
        have r0 := H.out.2.2.2.2.2.2.1.r0 p hp'
        have j2 := H.out.2.2.2.2.2.2.2.1.j2 ja hja'
        try simp only at r0
        rw [hAx, hz] at r0
        rw [hp] at j2
        have e2 : setupAt ⟨some ⟨gc, oc, none⟩, sc, cals, some ⟨gr, og, none⟩, sd, R, most⟩ L l[k].job jb = get2 R p q := by unfold setupAt; rw [hja, jobAt_at hja', jobAt_at hjb, hp, H.out.2.2.2.2.2.2.2.2.1]; rfl
        rw [e2, H.out.2.2.2.2.2.2.2.2.2] at hb
        have FK := fun W hW => FI l[k].stop (get2 R p q) W hW
        simp only [pairV] at FK
        rw [hja] at s0
        rw [hmm] at s1
        generalize get2 R p q = st at *
        generalize l[k].stop = xe at *
        generalize l[k].start = xs at *
        generalize finishV K.P K.S K.D xe st = fv at *
        obtain ⟨fe, fr⟩ := fv
        generalize R[p].c = cx at *
        try simp only at hb FK
        clear hrs hrl' hrw hrx hAx hmm hja hx0 hx1 ca0 ca1 hp hz e2
        by_cases h0 : fr = 0
        · subst h0
          rw [if_pos rfl] at hb
          have HB := Lib.hid hb
          clear hb
          go_wp2_with fail
          refine region_later (by kernel_rfl) (by kernel_rfl) ?_
          repeat (go_big_quiet_step ((with_reducible refine Gives.later (FK _ (by (repeat (first | (with_reducible exact SinceOf.refl _) | (with_reducible assumption) | (with_reducible refine SinceOf.alloc ?_ _) | (with_reducible refine SinceOf.drew ?_) | (with_reducible refine SinceOf.drewN ?_ _) | (with_reducible refine SinceOf.later ?_ _) | (with_reducible refine SinceOf.further ?_ _) | (with_reducible refine SinceOf.setCell ?_ (by first | exact Nat.le_refl _ | (simp; done) | omega | (simp; omega)) _))))))))
          refine wpQuiet_nil ?_
          rintro _ ⟨z2, rfl⟩
          go_wp2_with fail
          go_roundg (l.length - (k + 1))
          case measure => omega
          case rel => exact ⟨k + 1, imax b fe, hlt, Nat.le_refl _, rfl, by go_num, by (repeat (first | (with_reducible exact LaterOf.refl _) | (with_reducible refine LaterOf.alloc ?_ _) | (with_reducible refine LaterOf.drew ?_) | (with_reducible refine LaterOf.drewN ?_ _) | (with_reducible refine LaterOf.later ?_ _) | (with_reducible refine LaterOf.setCell ?_ (by first | exact Nat.le_refl _ | (simp; done) | omega | (simp; omega)) _))), HB.out⟩
        · rw [if_neg h0] at hb
          have h0' : (fr != 0) = true := by simpa using h0
          have HB := Lib.hid hb
          clear hb h0
          go_wp2_with fail
          refine region_later (by kernel_rfl) (by kernel_rfl) ?_
          repeat (go_big_quiet_step ((with_reducible refine Gives.later (FK _ (by (repeat (first | (with_reducible exact SinceOf.refl _) | (with_reducible assumption) | (with_reducible refine SinceOf.alloc ?_ _) | (with_reducible refine SinceOf.drew ?_) | (with_reducible refine SinceOf.drewN ?_ _) | (with_reducible refine SinceOf.later ?_ _) | (with_reducible refine SinceOf.further ?_ _) | (with_reducible refine SinceOf.setCell ?_ (by first | exact Nat.le_refl _ | (simp; done) | omega | (simp; omega)) _))))))))
          refine wpQuiet_nil ?_
          rintro _ ⟨z2, rfl⟩
          go_wp2_with fail
          go_returns
          exact ⟨by rw [HB.out]; rfl, by (repeat (first | (with_reducible exact LaterOf.refl _) | (with_reducible refine LaterOf.alloc ?_ _) | (with_reducible refine LaterOf.drew ?_) | (with_reducible refine LaterOf.drewN ?_ _) | (with_reducible refine LaterOf.later ?_ _) | (with_reducible refine LaterOf.setCell ?_ (by first | exact Nat.le_refl _ | (simp; done) | omega | (simp; omega)) _)))⟩
      · rw [if_neg hmm] at hb
        have h0' : (l[k].mach != (m : Int)) = true := by simpa using hmm
        generalize l[k].mach = xm at *
        have HB := Lib.hid hb
        clear hb hmm hx0 hx1 hrs hrl'
        go_wp2_with fail
        go_roundg (l.length - (k + 1))
        case measure => omega
        case rel => exact ⟨k + 1, b, hlt, Nat.le_refl _, rfl, by go_num, by (repeat (first | (with_reducible exact LaterOf.refl _) | (with_reducible refine LaterOf.alloc ?_ _) | (with_reducible refine LaterOf.drew ?_) | (with_reducible refine LaterOf.drewN ?_ _) | (with_reducible refine LaterOf.later ?_ _) | (with_reducible refine LaterOf.setCell ?_ (by first | exact Nat.le_refl _ | (simp; done) | omega | (simp; omega)) _))), HB.out⟩
    · have hkl : k = l.length := by omega
      rw [hkl, List.drop_length] at hb
      have HB := Lib.hid hb
      clear hb hkl
      go_wp2_with fail
      go_returns
      exact ⟨by rw [HB.out]; rfl, by (repeat (first | (with_reducible exact LaterOf.refl _) | (with_reducible refine LaterOf.alloc ?_ _) | (with_reducible refine LaterOf.drew ?_) | (with_reducible refine LaterOf.drewN ?_ _) | (with_reducible refine LaterOf.later ?_ _) | (with_reducible refine LaterOf.setCell ?_ (by first | exact Nat.le_refl _ | (simp; done) | omega | (simp; omega)) _)))⟩
end Go.Proofs.Ytdcncalcncomoaa
/- Layer 52: asked; the order of the heap. -/
namespace Go.Proofs.Ytdcncalcncomoaa
open Go.RowKit Go.Sort
set_option linter.unusedVariables false
attribute [local go_sem ↓] Go.wp_at_zero Go.wp_at_succ

def jobIn (L : List JobR) (j : Int) : Bool := decide (0 ≤ j) && decide (j ≤ (L.length : Int) - 1)
def askedE (L : List JobR) (l : List SlotR) (j : Int) : Int := if jobIn L j = false then 6 else if l.any (fun y => y.job == j) = true then 7 else 0
set_option maxRecDepth 100000 in
set_option maxHeartbeats 1000000 in
theorem asked_any (A : Option Addr) (c : Nat) (L : List JobR) (B : Option Addr) (d : Nat) (l : List SlotR) (j : Int) (w : World) (hjl : L.length < 4611686018427387904) (hl : IsSlots w B d l) (hll : l.length < 4611686018427387904) :
    Gives Try.prog 28 #[.slice A L.length c, .slice B l.length d, .int .i64 j] w (.int .i64 (askedE L l j)) := by
  apply Gives.ret
  have I1 := fun W => in_any j 0 ((L.length : Int) - 1) W
  have AS := fun b W (hW : SinceOf w W) (hb : W.cell? ⟨b, 0, none⟩ = some (.int .i64 j)) (hO : Nonempty (Old W b)) => containsAsked_any (.pointer (some ⟨b, 0, none⟩)) (fun y => y.job == j) B d l W (hl.of hW) hll (fun W' hW' y _ => by
    obtain ⟨z, rfl⟩ := hW'
    exact askedFn_any j y b z.wd (by rw [Since.cell]; exact hb) inferInstance)
  have e : askedE L l j = if jobIn L j = false then 6 else if l.any (fun y => y.job == j) = true then 7 else 0 := rfl
  have ej : jobIn L j = (decide (0 ≤ j) && decide (j ≤ (L.length : Int) - 1)) := rfl
  rw [e, ej]
  generalize (decide (0 ≤ j) && decide (j ≤ (L.length : Int) - 1)) = q1 at *
  generalize l.any (fun y => y.job == j) = q2 at *
  clear hl e ej
  cases q1
  · rw [if_pos rfl]
    go_enter Try.func28, Try.ntmps28
    go_wp2_with fail
    refine (I1 _).mono ?_
    rintro e w' ⟨rfl, rfl⟩
    go_wp2_with fail
    go_returns
    exact ⟨rfl, by (repeat (first | (with_reducible exact LaterOf.refl _) | (with_reducible refine LaterOf.alloc ?_ _) | (with_reducible refine LaterOf.drew ?_) | (with_reducible refine LaterOf.drewN ?_ _) | (with_reducible refine LaterOf.later ?_ _) | (with_reducible refine LaterOf.setCell ?_ (by first | exact Nat.le_refl _ | (simp; done) | omega | (simp; omega)) _)))⟩
  · rw [if_neg (by simp)]
    cases q2
    · rw [if_neg (by simp)]
      go_enter Try.func28, Try.ntmps28
      go_wp2_with fail
      refine (I1 _).mono ?_
      rintro e w' ⟨rfl, rfl⟩
      go_wp2_with fail
      refine (AS _ _ (by (repeat (first | (with_reducible exact SinceOf.refl _) | (with_reducible assumption) | (with_reducible refine SinceOf.alloc ?_ _) | (with_reducible refine SinceOf.drew ?_) | (with_reducible refine SinceOf.drewN ?_ _) | (with_reducible refine SinceOf.later ?_ _) | (with_reducible refine SinceOf.further ?_ _) | (with_reducible refine SinceOf.setCell ?_ (by first | exact Nat.le_refl _ | (simp; done) | omega | (simp; omega)) _)))) (by simp [go_sem]) inferInstance).calls.mono ?_
      rintro e _ ⟨rfl, x1, rfl⟩
      go_wp2_with fail
      go_returns
      exact ⟨rfl, by (repeat (first | (with_reducible exact LaterOf.refl _) | (with_reducible refine LaterOf.alloc ?_ _) | (with_reducible refine LaterOf.drew ?_) | (with_reducible refine LaterOf.drewN ?_ _) | (with_reducible refine LaterOf.later ?_ _) | (with_reducible refine LaterOf.setCell ?_ (by first | exact Nat.le_refl _ | (simp; done) | omega | (simp; omega)) _)))⟩
    · rw [if_pos rfl]
      go_enter Try.func28, Try.ntmps28
      go_wp2_with fail
      refine (I1 _).mono ?_
      rintro e w' ⟨rfl, rfl⟩
      go_wp2_with fail
      refine (AS _ _ (by (repeat (first | (with_reducible exact SinceOf.refl _) | (with_reducible assumption) | (with_reducible refine SinceOf.alloc ?_ _) | (with_reducible refine SinceOf.drew ?_) | (with_reducible refine SinceOf.drewN ?_ _) | (with_reducible refine SinceOf.later ?_ _) | (with_reducible refine SinceOf.further ?_ _) | (with_reducible refine SinceOf.setCell ?_ (by first | exact Nat.le_refl _ | (simp; done) | omega | (simp; omega)) _)))) (by simp [go_sem]) inferInstance).calls.mono ?_
      rintro e _ ⟨rfl, x1, rfl⟩
      go_wp2_with fail
      go_returns
      exact ⟨rfl, by (repeat (first | (with_reducible exact LaterOf.refl _) | (with_reducible refine LaterOf.alloc ?_ _) | (with_reducible refine LaterOf.drew ?_) | (with_reducible refine LaterOf.drewN ?_ _) | (with_reducible refine LaterOf.later ?_ _) | (with_reducible refine LaterOf.setCell ?_ (by first | exact Nat.le_refl _ | (simp; done) | omega | (simp; omega)) _)))⟩
theorem lessInt_any (a b : Int) (w : World) : Gives Try.prog 73 #[.int .i64 a, .int .i64 b] w (.bool (decide (a < b))) := by
  apply Gives.ret
  go_enter Try.func73, Try.ntmps73
  go_wp2_with fail
  go_returns
  exact ⟨rfl, by (repeat (first | (with_reducible exact LaterOf.refl _) | (with_reducible refine LaterOf.alloc ?_ _) | (with_reducible refine LaterOf.drew ?_) | (with_reducible refine LaterOf.drewN ?_ _) | (with_reducible refine LaterOf.later ?_ _) | (with_reducible refine LaterOf.setCell ?_ (by first | exact Nat.le_refl _ | (simp; done) | omega | (simp; omega)) _)))⟩
end Go.Proofs.Ytdcncalcncomoaa
