/- Layer 52: valid, Valid. -/
import Derived.Test.YtdcncalcncomoaaSch9
namespace Go.Proofs.Ytdcncalcncomoaa
open Go.RowKit Go.Sort
set_option linter.unusedVariables false
attribute [local go_sem ↓] Go.wp_at_zero Go.wp_at_succ

/-- The first index whose error is not 0. -/
def firstBad (f : Nat → Int) : List Nat → Option (Nat × Int)
  | [] => none
  | i :: r => if f i = 0 then firstBad f r else some (i, f i)
theorem firstBad_drop (f : Nat → Int) {n k : Nat} (h : k < n) : firstBad f ((List.range n).drop k) = if f k = 0 then firstBad f ((List.range n).drop (k + 1)) else some (k, f k) := by
  rw [List.drop_eq_getElem_cons (by simpa using h), List.getElem_range]; rfl
theorem firstBad_end (f : Nat → Int) (n : Nat) : firstBad f ((List.range n).drop n) = none := by
  rw [List.drop_eq_nil_of_le (by simp)]; rfl
def noSlot : SlotR := ⟨0, 0, 0, 0⟩
def fitE (s : ShopR) (L : List JobR) (l : List SlotR) (k : Nat) : Int := slotE s L (l.take k) (l.getD k noSlot)
def openE (s : ShopR) (L : List JobR) (l : List SlotR) (k : Nat) : Int := if s.most < openN L (l.getD k noSlot).start l then 28 else 0
def validV (s : ShopR) (L : List JobR) (l : List SlotR) : Int × Int :=
  match firstBad (fitE s L l) (List.range l.length) with
  | some (i, e) => (i, e)
  | none => match firstBad (openE s L l) (List.range l.length) with
    | some (i, e) => (i, e)
    | none => (l.length, 0)
theorem named_of {s : ShopR} {L : List JobR} {ahead : List SlotR} {x : SlotR} (h : slotE s L ahead x = 0) : nameB s L x = true := by
  unfold slotE at h
  cases hn : nameB s L x
  · rw [if_pos hn] at h; cases h
  · rfl
theorem getS_at {l : List SlotR} {k : Nat} (h : k < l.length) : l.getD k noSlot = l[k] := by rw [List.getD_eq_getElem?_getD, List.getElem?_eq_getElem h, Option.getD_some]

set_option maxRecDepth 100000 in
set_option maxHeartbeats 4000000 in
theorem validS_any (s : ShopR) (A : Option Addr) (c : Nat) (L : List JobR) (B : Option Addr) (d : Nat) (l : List SlotR) (w : World) (hs : IsShop w s) (h : IsJobs w A c L) (gp : GoodP s L) (hord : ∀ j ∈ L, 0 ≤ j.ord ∧ j.ord ≤ 1000) (hl : IsSlots w B d l) (hll : l.length < 4611686018427387904) (hcap : l.length ≤ d) :
    Gives Try.prog 46 #[shopV s, .slice A L.length c, .slice B l.length d] w (.tuple #[.int .i64 (validV s L l).1, .int .i64 (validV s L l).2]) := by
  apply Gives.ret
  obtain ⟨v1, hv1⟩ : ∃ v, v = (validV s L l).1 := ⟨_, rfl⟩
  obtain ⟨v2, hv2⟩ : ∃ v, v = (validV s L l).2 := ⟨_, rfl⟩
  have SL := fun (k : Nat) (hk : k ≤ l.length) (hn : NamedS s L (l.take k)) x W (hW : SinceOf w W) => slot_any s A c L B d (l.take k) x W (hs.of hW) (h.of hW) gp ((hl.take k).of hW) (by rw [List.length_take]; omega) hn
  have HO := Lib.hid (And.intro hl (And.intro h (And.intro hord (And.intro hv1 hv2))))
  rw [← hv1, ← hv2]
  obtain ⟨sA, sc, cals, sB, sd, R, most⟩ := s
  clear hs h gp hord hl hv1 hv2
  go_enter Try.func46, Try.ntmps46
  go_wp2_with fail
  go_loopg [15] l.length (fun gas s15 wr => ∃ k : Nat, k ≤ l.length ∧ l.length - k ≤ gas ∧ s15 = .int .i64 k ∧ LaterOf (w.alloc (.cells #[.slice sA cals.length sc, .slice sB R.length sd, .int .i64 most] 40)) wr ∧ NamedS ⟨sA, sc, cals, sB, sd, R, most⟩ L (l.take k) ∧
    firstBad (fitE ⟨sA, sc, cals, sB, sd, R, most⟩ L l) (List.range l.length) = firstBad (fitE ⟨sA, sc, cals, sB, sd, R, most⟩ L l) ((List.range l.length).drop k))
  case atStart => exact ⟨0, by omega, by omega, rfl, by (repeat (first | (with_reducible exact LaterOf.refl _) | (with_reducible refine LaterOf.alloc ?_ _) | (with_reducible refine LaterOf.drew ?_) | (with_reducible refine LaterOf.drewN ?_ _) | (with_reducible refine LaterOf.later ?_ _) | (with_reducible refine LaterOf.setCell ?_ (by first | exact Nat.le_refl _ | (simp; done) | omega | (simp; omega)) _))), (by intro y hy; simp at hy), by rw [List.drop_zero]⟩
  case round =>
    obtain ⟨k, hk, hgas, rfl, ⟨z, rfl⟩, hnam, hfb⟩ := hrel
    by_cases hlt : k < l.length
    · rw [firstBad_drop _ hlt] at hfb
      have SK := SL k hk hnam l[k]
      have hfe : fitE ⟨sA, sc, cals, sB, sd, R, most⟩ L l k = slotE ⟨sA, sc, cals, sB, sd, R, most⟩ L (l.take k) l[k] := by unfold fitE; rw [getS_at hlt]
      rw [show (l.take k).length = k from by rw [List.length_take]; omega, ← hfe] at SK
      have hrl := HO.out.1.of (w' := z.wd) (by (repeat (first | (with_reducible exact SinceOf.refl _) | (with_reducible assumption) | (with_reducible refine SinceOf.alloc ?_ _) | (with_reducible refine SinceOf.drew ?_) | (with_reducible refine SinceOf.drewN ?_ _) | (with_reducible refine SinceOf.later ?_ _) | (with_reducible refine SinceOf.further ?_ _) | (with_reducible refine SinceOf.setCell ?_ (by first | exact Nat.le_refl _ | (simp; done) | omega | (simp; omega)) _))))
      obtain ⟨g, off, rfl, hr⟩ := hrl.at_ (by omega)
      have hO := hr.there
      have s0 := hr.s0 k hlt
      have s1 := hr.s1 k hlt
      have s2 := hr.s2 k hlt
      have s3 := hr.s3 k hlt
      have hnext : fitE ⟨sA, sc, cals, sB, sd, R, most⟩ L l k = 0 → NamedS ⟨sA, sc, cals, sB, sd, R, most⟩ L (l.take (k + 1)) := by
        intro e y hy
        rw [List.take_succ_eq_append_getElem hlt, List.mem_append] at hy
        rcases hy with hy | hy
        · exact hnam y hy
        · rw [List.mem_singleton] at hy
          rw [hy]; exact named_of (hfe ▸ e)
      generalize l[k] = x at *
      generalize fitE ⟨sA, sc, cals, sB, sd, R, most⟩ L l k = fe at *
      have HF := Lib.hid (And.intro hfb hnext)
      clear hfb hnext hnam hfe hr hrl
      by_cases h0 : fe = 0
      · subst h0
        go_wp2_with fail
        refine region_later (by kernel_rfl) (by kernel_rfl) ?_
        repeat (go_big_quiet_step ((with_reducible refine Gives.later (SK _ (by (repeat (first | (with_reducible exact SinceOf.refl _) | (with_reducible assumption) | (with_reducible refine SinceOf.alloc ?_ _) | (with_reducible refine SinceOf.drew ?_) | (with_reducible refine SinceOf.drewN ?_ _) | (with_reducible refine SinceOf.later ?_ _) | (with_reducible refine SinceOf.further ?_ _) | (with_reducible refine SinceOf.setCell ?_ (by first | exact Nat.le_refl _ | (simp; done) | omega | (simp; omega)) _))))))))
        refine wpQuiet_nil ?_
        rintro _ ⟨z2, rfl⟩
        go_wp2_with fail
        go_roundg (l.length - (k + 1))
        case measure => omega
        case rel => exact ⟨k + 1, hlt, Nat.le_refl _, by go_num, by (repeat (first | (with_reducible exact LaterOf.refl _) | (with_reducible refine LaterOf.alloc ?_ _) | (with_reducible refine LaterOf.drew ?_) | (with_reducible refine LaterOf.drewN ?_ _) | (with_reducible refine LaterOf.later ?_ _) | (with_reducible refine LaterOf.setCell ?_ (by first | exact Nat.le_refl _ | (simp; done) | omega | (simp; omega)) _))), HF.out.2 (by trivial), by rw [HF.out.1, if_pos (by trivial)]⟩
      · have hne : (fe != 0) = true := by simpa using h0
        have HN := Lib.hid h0
        clear h0
        go_wp2_with fail
        refine region_later (by kernel_rfl) (by kernel_rfl) ?_
        repeat (go_big_quiet_step ((with_reducible refine Gives.later (SK _ (by (repeat (first | (with_reducible exact SinceOf.refl _) | (with_reducible assumption) | (with_reducible refine SinceOf.alloc ?_ _) | (with_reducible refine SinceOf.drew ?_) | (with_reducible refine SinceOf.drewN ?_ _) | (with_reducible refine SinceOf.later ?_ _) | (with_reducible refine SinceOf.further ?_ _) | (with_reducible refine SinceOf.setCell ?_ (by first | exact Nat.le_refl _ | (simp; done) | omega | (simp; omega)) _))))))))
        refine wpQuiet_nil ?_
        rintro _ ⟨z2, rfl⟩
        go_wp2_with fail
        go_returns
        have hvv : validV ⟨sA, sc, cals, sB, sd, R, most⟩ L l = ((k : Int), fe) := by unfold validV; rw [HF.out.1, if_neg HN.out]
        refine ⟨?_, by (repeat (first | (with_reducible exact LaterOf.refl _) | (with_reducible refine LaterOf.alloc ?_ _) | (with_reducible refine LaterOf.drew ?_) | (with_reducible refine LaterOf.drewN ?_ _) | (with_reducible refine LaterOf.later ?_ _) | (with_reducible refine LaterOf.setCell ?_ (by first | exact Nat.le_refl _ | (simp; done) | omega | (simp; omega)) _)))⟩
        rw [HO.out.2.2.2.1, HO.out.2.2.2.2, hvv]
        try rfl
    · have hkl : k = l.length := by omega
      rw [hkl, firstBad_end] at hfb
      rw [hkl, List.take_length] at hnam
      have OP := fun t W (hW : SinceOf w W) => openS_any A c L B d l t W (HO.out.2.1.of hW) (HO.out.1.of hW) hll (fun y hy => (nameB_iff.1 (hnam y hy)).1) HO.out.2.2.1
      have HF := Lib.hid hfb
      clear hfb hnam hkl SL
      go_wp2_with fail
      go_loopg [34] l.length (fun gas s34 wr => ∃ k : Nat, k ≤ l.length ∧ l.length - k ≤ gas ∧ s34 = .int .i64 k ∧ LaterOf (w.alloc (.cells #[.slice sA cals.length sc, .slice sB R.length sd, .int .i64 most] 40)) wr ∧
        firstBad (openE ⟨sA, sc, cals, sB, sd, R, most⟩ L l) (List.range l.length) = firstBad (openE ⟨sA, sc, cals, sB, sd, R, most⟩ L l) ((List.range l.length).drop k))
      case atStart => exact ⟨0, by omega, by omega, rfl, by (repeat (first | (with_reducible exact LaterOf.refl _) | (with_reducible refine LaterOf.alloc ?_ _) | (with_reducible refine LaterOf.drew ?_) | (with_reducible refine LaterOf.drewN ?_ _) | (with_reducible refine LaterOf.later ?_ _) | (with_reducible refine LaterOf.setCell ?_ (by first | exact Nat.le_refl _ | (simp; done) | omega | (simp; omega)) _))), by rw [List.drop_zero]⟩
      case round =>
        obtain ⟨i, hi, hgas2, rfl, ⟨z3, rfl⟩, hfb2⟩ := hrel
        by_cases hlti : i < l.length
        · rw [firstBad_drop _ hlti] at hfb2
          have hoe : openE ⟨sA, sc, cals, sB, sd, R, most⟩ L l i = if most < openN L l[i].start l then 28 else 0 := by unfold openE; rw [getS_at hlti]
          have OK := OP l[i].start
          have hrl := HO.out.1.of (w' := z3.wd) (by (repeat (first | (with_reducible exact SinceOf.refl _) | (with_reducible assumption) | (with_reducible refine SinceOf.alloc ?_ _) | (with_reducible refine SinceOf.drew ?_) | (with_reducible refine SinceOf.drewN ?_ _) | (with_reducible refine SinceOf.later ?_ _) | (with_reducible refine SinceOf.further ?_ _) | (with_reducible refine SinceOf.setCell ?_ (by first | exact Nat.le_refl _ | (simp; done) | omega | (simp; omega)) _))))
          obtain ⟨g, off, rfl, hr⟩ := hrl.at_ (by omega)
          have hO := hr.there
          have s0 := hr.s0 i hlti
          have s1 := hr.s1 i hlti
          have s2 := hr.s2 i hlti
          have s3 := hr.s3 i hlti
          generalize l[i].start = xs at *
          generalize l[i].stop = xe at *
          generalize l[i].mach = xm at *
          generalize l[i].job = xj at *
          generalize openN L xs l = on at *
          clear hr hrl
          by_cases hlt3 : most < on
          · rw [hoe, if_pos hlt3, if_neg (by omega)] at hfb2
            have hd : decide (most < on) = true := by simpa using hlt3
            have HG := Lib.hid hfb2
            clear hfb2 hoe hlt3
            go_wp2_with fail
            refine region_later (by kernel_rfl) (by kernel_rfl) ?_
            repeat (go_big_quiet_step ((with_reducible refine Gives.later (OK _ (by (repeat (first | (with_reducible exact SinceOf.refl _) | (with_reducible assumption) | (with_reducible refine SinceOf.alloc ?_ _) | (with_reducible refine SinceOf.drew ?_) | (with_reducible refine SinceOf.drewN ?_ _) | (with_reducible refine SinceOf.later ?_ _) | (with_reducible refine SinceOf.further ?_ _) | (with_reducible refine SinceOf.setCell ?_ (by first | exact Nat.le_refl _ | (simp; done) | omega | (simp; omega)) _))))))))
            refine wpQuiet_nil ?_
            rintro _ ⟨z4, rfl⟩
            go_wp2_with fail
            go_returns
            have hvv : validV ⟨sA, sc, cals, sB, sd, R, most⟩ L l = ((i : Int), 28) := by unfold validV; rw [HF.out, HG.out]
            refine ⟨?_, by (repeat (first | (with_reducible exact LaterOf.refl _) | (with_reducible refine LaterOf.alloc ?_ _) | (with_reducible refine LaterOf.drew ?_) | (with_reducible refine LaterOf.drewN ?_ _) | (with_reducible refine LaterOf.later ?_ _) | (with_reducible refine LaterOf.setCell ?_ (by first | exact Nat.le_refl _ | (simp; done) | omega | (simp; omega)) _)))⟩
            rw [HO.out.2.2.2.1, HO.out.2.2.2.2, hvv]
            try rfl
          · rw [hoe, if_neg hlt3, if_pos rfl] at hfb2
            have hd : decide (most < on) = false := by simpa using hlt3
            have HG := Lib.hid hfb2
            clear hfb2 hoe hlt3
            go_wp2_with fail
            refine region_later (by kernel_rfl) (by kernel_rfl) ?_
            repeat (go_big_quiet_step ((with_reducible refine Gives.later (OK _ (by (repeat (first | (with_reducible exact SinceOf.refl _) | (with_reducible assumption) | (with_reducible refine SinceOf.alloc ?_ _) | (with_reducible refine SinceOf.drew ?_) | (with_reducible refine SinceOf.drewN ?_ _) | (with_reducible refine SinceOf.later ?_ _) | (with_reducible refine SinceOf.further ?_ _) | (with_reducible refine SinceOf.setCell ?_ (by first | exact Nat.le_refl _ | (simp; done) | omega | (simp; omega)) _))))))))
            refine wpQuiet_nil ?_
            rintro _ ⟨z4, rfl⟩
            go_wp2_with fail
            go_roundg (l.length - (i + 1))
            case measure => omega
            case rel => exact ⟨i + 1, hlti, Nat.le_refl _, by go_num, by (repeat (first | (with_reducible exact LaterOf.refl _) | (with_reducible refine LaterOf.alloc ?_ _) | (with_reducible refine LaterOf.drew ?_) | (with_reducible refine LaterOf.drewN ?_ _) | (with_reducible refine LaterOf.later ?_ _) | (with_reducible refine LaterOf.setCell ?_ (by first | exact Nat.le_refl _ | (simp; done) | omega | (simp; omega)) _))), HG.out⟩
        · have hil : i = l.length := by omega
          rw [hil, firstBad_end] at hfb2
          have HG := Lib.hid hfb2
          clear hfb2 hil
          go_wp2_with fail
          go_returns
          have hvv : validV ⟨sA, sc, cals, sB, sd, R, most⟩ L l = ((l.length : Int), 0) := by unfold validV; rw [HF.out, HG.out]
          refine ⟨?_, by (repeat (first | (with_reducible exact LaterOf.refl _) | (with_reducible refine LaterOf.alloc ?_ _) | (with_reducible refine LaterOf.drew ?_) | (with_reducible refine LaterOf.drewN ?_ _) | (with_reducible refine LaterOf.later ?_ _) | (with_reducible refine LaterOf.setCell ?_ (by first | exact Nat.le_refl _ | (simp; done) | omega | (simp; omega)) _)))⟩
          rw [HO.out.2.2.2.1, HO.out.2.2.2.2, hvv]
          try rfl
end Go.Proofs.Ytdcncalcncomoaa
/- Layer 52: Valid. -/
namespace Go.Proofs.Ytdcncalcncomoaa
open Go.RowKit Go.Sort
set_option linter.unusedVariables false
attribute [local go_sem ↓] Go.wp_at_zero Go.wp_at_succ

theorem check_job {s : ShopR} {L : List JobR} (h : checkS s L = true) {j : JobR} (hj : j ∈ L) : jobB s j = true := by
  unfold checkS at h
  rw [Bool.and_eq_true, Bool.and_eq_true] at h
  have := h.2.2
  rw [Bool.not_eq_true', List.any_eq_false] at this
  simpa using this j hj
theorem job_parts {s : ShopR} {j : JobR} (h : jobB s j = true) : machsB s.cals.length j.ms = true ∧ 0 < j.ms.length ∧ (1 ≤ j.dur ∧ j.dur ≤ 10000) ∧ (0 ≤ j.cls ∧ j.cls < s.rows.length) ∧ (0 ≤ j.rel ∧ j.rel ≤ 1000000) ∧ (0 ≤ j.due ∧ j.due ≤ 1000000) ∧ (0 ≤ j.ord ∧ j.ord ≤ 1000) := by
  unfold jobB restB at h
  simp only [Bool.and_eq_true, decide_eq_true_eq] at h
  obtain ⟨h1, h2, h3, h4, h5, h6, h7⟩ := h
  exact ⟨h1, h2, h3, ⟨h4.1, by omega⟩, h5, h6, h7⟩
theorem check_good {s : ShopR} {L : List JobR} (h : checkS s L = true) : GoodP s L := by
  refine ⟨fun a ha => ?_, fun j hj => (job_parts (check_job h hj)).2.2.2.1⟩
  unfold checkS shopB sizesB at h
  simp only [Bool.and_eq_true] at h
  have := List.all_eq_true.1 h.1.2.1 s.rows[a] (List.getElem_mem ha)
  simpa using this
def validT (s : ShopR) (L : List JobR) (l : List SlotR) : Int × Int := if checkS s L = true then validV s L l else (0, 1)
set_option maxHeartbeats 1000000 in
theorem valid52_any (s : ShopR) (A : Option Addr) (c : Nat) (L : List JobR) (B : Option Addr) (d : Nat) (l : List SlotR) (w : World) (hs : IsShop w s) (h : IsJobs w A c L) (hl : IsSlots w B d l) (hll : l.length < 4611686018427387904) (hcap : l.length ≤ d) :
    Gives Try.prog 24 #[shopV s, .slice A L.length c, .slice B l.length d] w (.tuple #[.int .i64 (validT s L l).1, .int .i64 (validT s L l).2]) := by
  apply Gives.ret
  have CH := fun W hW => check_any s A c L W (hs.of hW) (h.of hW)
  cases hc : checkS s L
  · have e : validT s L l = (0, 1) := by unfold validT; rw [hc]; rfl
    rw [hc] at CH
    rw [e]
    clear hs h hl hc e
    go_enter Try.func24, Try.ntmps24
    go_wp2_with fail
    refine (CH _ (by (repeat (first | (with_reducible exact SinceOf.refl _) | (with_reducible assumption) | (with_reducible refine SinceOf.alloc ?_ _) | (with_reducible refine SinceOf.drew ?_) | (with_reducible refine SinceOf.drewN ?_ _) | (with_reducible refine SinceOf.later ?_ _) | (with_reducible refine SinceOf.further ?_ _) | (with_reducible refine SinceOf.setCell ?_ (by first | exact Nat.le_refl _ | (simp; done) | omega | (simp; omega)) _))))).calls.mono ?_
    rintro e _ ⟨rfl, x1, rfl⟩
    go_wp2_with fail
    go_returns
    exact ⟨rfl, by (repeat (first | (with_reducible exact LaterOf.refl _) | (with_reducible refine LaterOf.alloc ?_ _) | (with_reducible refine LaterOf.drew ?_) | (with_reducible refine LaterOf.drewN ?_ _) | (with_reducible refine LaterOf.later ?_ _) | (with_reducible refine LaterOf.setCell ?_ (by first | exact Nat.le_refl _ | (simp; done) | omega | (simp; omega)) _)))⟩
  · have e : validT s L l = validV s L l := by unfold validT; rw [hc]; rfl
    have VA := fun W (hW : SinceOf w W) => validS_any s A c L B d l W (hs.of hW) (h.of hW) (check_good hc) (fun j hj => (job_parts (check_job hc hj)).2.2.2.2.2.2) (hl.of hW) hll hcap
    rw [hc] at CH
    rw [e]
    generalize validV s L l = v at *
    obtain ⟨v1, v2⟩ := v
    clear hs h hl hc e
    go_enter Try.func24, Try.ntmps24
    go_wp2_with fail
    refine (CH _ (by (repeat (first | (with_reducible exact SinceOf.refl _) | (with_reducible assumption) | (with_reducible refine SinceOf.alloc ?_ _) | (with_reducible refine SinceOf.drew ?_) | (with_reducible refine SinceOf.drewN ?_ _) | (with_reducible refine SinceOf.later ?_ _) | (with_reducible refine SinceOf.further ?_ _) | (with_reducible refine SinceOf.setCell ?_ (by first | exact Nat.le_refl _ | (simp; done) | omega | (simp; omega)) _))))).calls.mono ?_
    rintro e _ ⟨rfl, x1, rfl⟩
    go_wp2_with fail
    refine (VA _ (by (repeat (first | (with_reducible exact SinceOf.refl _) | (with_reducible assumption) | (with_reducible refine SinceOf.alloc ?_ _) | (with_reducible refine SinceOf.drew ?_) | (with_reducible refine SinceOf.drewN ?_ _) | (with_reducible refine SinceOf.later ?_ _) | (with_reducible refine SinceOf.further ?_ _) | (with_reducible refine SinceOf.setCell ?_ (by first | exact Nat.le_refl _ | (simp; done) | omega | (simp; omega)) _))))).calls.mono ?_
    rintro e _ ⟨rfl, x2, rfl⟩
    go_wp2_with fail
    go_returns
    exact ⟨rfl, by (repeat (first | (with_reducible exact LaterOf.refl _) | (with_reducible refine LaterOf.alloc ?_ _) | (with_reducible refine LaterOf.drew ?_) | (with_reducible refine LaterOf.drewN ?_ _) | (with_reducible refine LaterOf.later ?_ _) | (with_reducible refine LaterOf.setCell ?_ (by first | exact Nat.le_refl _ | (simp; done) | omega | (simp; omega)) _)))⟩
end Go.Proofs.Ytdcncalcncomoaa
