/- Layer 52 (the reference): Valid. -/
import Derived.Test.YtdcncalcncomoaaSch43
import Derived.Test.YtdcncalcncomoaaSch32
namespace Go.Proofs.Ytdcncalcncomoaa
open Go.RowKit Go.Sort
set_option linter.unusedVariables false
attribute [local go_sem ↓] Go.wp_at_zero Go.wp_at_succ

set_option maxRecDepth 100000 in
set_option maxHeartbeats 8000000 in
theorem refValid52_any (s : ShopR) (A : Option Addr) (c : Nat) (L : List JobR) (B : Option Addr) (d : Nat) (l : List SlotR) (w : World) (hs : IsShop w s) (h : IsJobs w A c L) (hl : IsSlots w B d l) (hll : l.length < 4611686018427387904) (hcap : l.length ≤ d) :
    Gives Try.prog 13 #[shopV s, .slice A L.length c, .slice B l.length d] w (.tuple #[.int .i64 (validT s L l).1, .int .i64 (validT s L l).2]) := by
  apply Gives.ret
  have CH := fun W hW => refCheck52_any s A c L W (hs.of hW) (h.of hW)
  rw [← validRT_eq]
  cases hc : refCheckB s L
  · rw [hc] at CH
    rw [if_neg (by simp)]
    clear hs h hl hc
    obtain ⟨sA, sc, cals, sB, sd, R, most⟩ := s
    go_enter Try.func13, Try.ntmps13
    go_wp2_with fail
    refine (CH _ (by (repeat (first | (with_reducible exact SinceOf.refl _) | (with_reducible assumption) | (with_reducible refine SinceOf.alloc ?_ _) | (with_reducible refine SinceOf.drew ?_) | (with_reducible refine SinceOf.drewN ?_ _) | (with_reducible refine SinceOf.later ?_ _) | (with_reducible refine SinceOf.further ?_ _) | (with_reducible refine SinceOf.setCell ?_ (by first | exact Nat.le_refl _ | (simp; done) | omega | (simp; omega)) _))))).calls.mono ?_
    rintro e _ ⟨rfl, x1, rfl⟩
    go_wp2_with fail
    go_returns
    exact ⟨rfl, by (repeat (first | (with_reducible exact LaterOf.refl _) | (with_reducible refine LaterOf.alloc ?_ _) | (with_reducible refine LaterOf.drew ?_) | (with_reducible refine LaterOf.drewN ?_ _) | (with_reducible refine LaterOf.later ?_ _) | (with_reducible refine LaterOf.setCell ?_ (by first | exact Nat.le_refl _ | (simp; done) | omega | (simp; omega)) _)))⟩
  · rw [if_pos rfl]
    have gp := check_good (by rw [← refCheck_eq]; exact hc)
    rw [hc] at CH
    obtain ⟨v1, hv1⟩ : ∃ v, v = (validR s L l).1 := ⟨_, rfl⟩
    obtain ⟨v2, hv2⟩ : ∃ v, v = (validR s L l).2 := ⟨_, rfl⟩
    have SL := fun (k : Nat) (hk : k ≤ l.length) (hn : NamedS s L (l.take k)) x W (hW : SinceOf w W) => refFits_any s A c L B d (l.take k) x W (hs.of hW) (h.of hW) gp ((hl.take k).of hW) (by rw [List.length_take]; omega) hn
    have HO := Lib.hid (And.intro hl (And.intro h (And.intro hv1 hv2)))
    rw [← hv1, ← hv2]
    have hnr : ∀ k, fitR s L l k = 0 → nameB s L (l.getD k noSlot) = true := by
      intro k e
      unfold fitR slotR at e
      cases hn : nameB s L (l.getD k noSlot)
      · rw [if_pos hn] at e; cases e
      · rfl
    obtain ⟨sA, sc, cals, sB, sd, R, most⟩ := s
    have HN := Lib.hid hnr
    clear hs h gp hl hv1 hv2 hc hnr
    go_enter Try.func13, Try.ntmps13
    go_wp2_with fail
    refine (CH _ (by (repeat (first | (with_reducible exact SinceOf.refl _) | (with_reducible assumption) | (with_reducible refine SinceOf.alloc ?_ _) | (with_reducible refine SinceOf.drew ?_) | (with_reducible refine SinceOf.drewN ?_ _) | (with_reducible refine SinceOf.later ?_ _) | (with_reducible refine SinceOf.further ?_ _) | (with_reducible refine SinceOf.setCell ?_ (by first | exact Nat.le_refl _ | (simp; done) | omega | (simp; omega)) _))))).calls.mono ?_
    rintro e _ ⟨rfl, x1, rfl⟩
    clear CH
    go_wp2_with fail
    go_loopg [8] l.length (fun gas s8 wr => ∃ k : Nat, k ≤ l.length ∧ l.length - k ≤ gas ∧ s8 = .int .i64 k ∧ LaterOf x1.wd wr ∧ NamedS ⟨sA, sc, cals, sB, sd, R, most⟩ L (l.take k) ∧
      firstBad (fitR ⟨sA, sc, cals, sB, sd, R, most⟩ L l) (List.range l.length) = firstBad (fitR ⟨sA, sc, cals, sB, sd, R, most⟩ L l) ((List.range l.length).drop k))
    case atStart => exact ⟨0, by omega, by omega, rfl, by (repeat (first | (with_reducible exact LaterOf.refl _) | (with_reducible refine LaterOf.alloc ?_ _) | (with_reducible refine LaterOf.drew ?_) | (with_reducible refine LaterOf.drewN ?_ _) | (with_reducible refine LaterOf.later ?_ _) | (with_reducible refine LaterOf.setCell ?_ (by first | exact Nat.le_refl _ | (simp; done) | omega | (simp; omega)) _))), (by intro y hy; simp at hy), by rw [List.drop_zero]⟩
    case round =>
      obtain ⟨k, hk, hgas, rfl, ⟨z, rfl⟩, hnam, hfb⟩ := hrel
      by_cases hlt : k < l.length
      · rw [firstBad_drop _ hlt] at hfb
        have SK := SL k hk hnam l[k]
        have hfe : fitR ⟨sA, sc, cals, sB, sd, R, most⟩ L l k = slotR ⟨sA, sc, cals, sB, sd, R, most⟩ L (l.take k) l[k] := by unfold fitR; rw [getS_at hlt]
        rw [show (l.take k).length = k from by rw [List.length_take]; omega, ← hfe] at SK
        have hrl := HO.out.1.of (w' := z.wd) (by (repeat (first | (with_reducible exact SinceOf.refl _) | (with_reducible assumption) | (with_reducible refine SinceOf.alloc ?_ _) | (with_reducible refine SinceOf.drew ?_) | (with_reducible refine SinceOf.drewN ?_ _) | (with_reducible refine SinceOf.later ?_ _) | (with_reducible refine SinceOf.further ?_ _) | (with_reducible refine SinceOf.setCell ?_ (by first | exact Nat.le_refl _ | (simp; done) | omega | (simp; omega)) _))))
        obtain ⟨g, off, rfl, hr⟩ := hrl.at_ (by omega)
        have hO := hr.there
        have s0 := hr.s0 k hlt
        have s1 := hr.s1 k hlt
        have s2 := hr.s2 k hlt
        have s3 := hr.s3 k hlt
        have hkd : k ≤ d := by omega
        have hnext : fitR ⟨sA, sc, cals, sB, sd, R, most⟩ L l k = 0 → NamedS ⟨sA, sc, cals, sB, sd, R, most⟩ L (l.take (k + 1)) := by
          intro e y hy
          rw [List.take_succ_eq_append_getElem hlt, List.mem_append] at hy
          rcases hy with hy | hy
          · exact hnam y hy
          · rw [List.mem_singleton] at hy
            have := HN.out k e
            rw [getS_at hlt] at this
            rw [hy]; exact this
        generalize l[k] = x at *
        generalize fitR ⟨sA, sc, cals, sB, sd, R, most⟩ L l k = fe at *
        have HF := Lib.hid (And.intro hfb hnext)
        clear hfb hnext hnam hfe hr hrl
        by_cases h0 : fe = 0
        · subst h0
          go_wp2_with fail
          refine region_later (by kernel_rfl) (by kernel_rfl) ?_
          repeat (go_big_quiet_step ((with_reducible refine Gives.later (SK _ (by (repeat (first | (with_reducible exact SinceOf.refl _) | (with_reducible assumption) | (with_reducible refine SinceOf.alloc ?_ _) | (with_reducible refine SinceOf.drew ?_) | (with_reducible refine SinceOf.drewN ?_ _) | (with_reducible refine SinceOf.later ?_ _) | (with_reducible refine SinceOf.further ?_ _) | (with_reducible refine SinceOf.setCell ?_ (by first | exact Nat.le_refl _ | (simp; done) | omega | (simp; omega)) _))))))))
          refine wpQuiet_nil ?_
          rintro _ ⟨z2, rfl⟩
          go_wp2_with fail
          go_roundg (l.length - (k + 1))
          case measure => omega
          case rel => exact ⟨k + 1, hlt, Nat.le_refl _, by go_num, by (repeat (first | (with_reducible exact LaterOf.refl _) | (with_reducible refine LaterOf.alloc ?_ _) | (with_reducible refine LaterOf.drew ?_) | (with_reducible refine LaterOf.drewN ?_ _) | (with_reducible refine LaterOf.later ?_ _) | (with_reducible refine LaterOf.setCell ?_ (by first | exact Nat.le_refl _ | (simp; done) | omega | (simp; omega)) _))), HF.out.2 (by trivial), by rw [HF.out.1, if_pos (by trivial)]⟩
        · have hne : (fe != 0) = true := by simpa using h0
          have HN := Lib.hid h0
          clear h0
          go_wp2_with fail
          refine region_later (by kernel_rfl) (by kernel_rfl) ?_
          repeat (go_big_quiet_step ((with_reducible refine Gives.later (SK _ (by (repeat (first | (with_reducible exact SinceOf.refl _) | (with_reducible assumption) | (with_reducible refine SinceOf.alloc ?_ _) | (with_reducible refine SinceOf.drew ?_) | (with_reducible refine SinceOf.drewN ?_ _) | (with_reducible refine SinceOf.later ?_ _) | (with_reducible refine SinceOf.further ?_ _) | (with_reducible refine SinceOf.setCell ?_ (by first | exact Nat.le_refl _ | (simp; done) | omega | (simp; omega)) _))))))))
          refine wpQuiet_nil ?_
          rintro _ ⟨z2, rfl⟩
          go_wp2_with fail
          go_returns
          have hvv : validR ⟨sA, sc, cals, sB, sd, R, most⟩ L l = ((k : Int), fe) := by unfold validR; rw [HF.out.1, if_neg HN.out]
          refine ⟨?_, by (repeat (first | (with_reducible exact LaterOf.refl _) | (with_reducible refine LaterOf.alloc ?_ _) | (with_reducible refine LaterOf.drew ?_) | (with_reducible refine LaterOf.drewN ?_ _) | (with_reducible refine LaterOf.later ?_ _) | (with_reducible refine LaterOf.setCell ?_ (by first | exact Nat.le_refl _ | (simp; done) | omega | (simp; omega)) _)))⟩
          rw [HO.out.2.2.1, HO.out.2.2.2, hvv]
          try rfl
      · have hkl : k = l.length := by omega
        rw [hkl, firstBad_end] at hfb
        rw [hkl, List.take_length] at hnam
        have OP := fun t W (hW : SinceOf w W) => refOpen52_any A c L B d l t W (HO.out.2.1.of hW) (HO.out.1.of hW) hll (fun y hy => (nameB_iff.1 (hnam y hy)).1)
        have HF := Lib.hid hfb
        clear hfb hnam hkl SL
        go_wp2_with fail
        go_loopg [10] l.length (fun gas s10 wr => ∃ k : Nat, k ≤ l.length ∧ l.length - k ≤ gas ∧ s10 = .int .i64 k ∧ LaterOf x1.wd wr ∧
          firstBad (openRE ⟨sA, sc, cals, sB, sd, R, most⟩ L l) (List.range l.length) = firstBad (openRE ⟨sA, sc, cals, sB, sd, R, most⟩ L l) ((List.range l.length).drop k))
        case atStart => exact ⟨0, by omega, by omega, rfl, by (repeat (first | (with_reducible exact LaterOf.refl _) | (with_reducible refine LaterOf.alloc ?_ _) | (with_reducible refine LaterOf.drew ?_) | (with_reducible refine LaterOf.drewN ?_ _) | (with_reducible refine LaterOf.later ?_ _) | (with_reducible refine LaterOf.setCell ?_ (by first | exact Nat.le_refl _ | (simp; done) | omega | (simp; omega)) _))), by rw [List.drop_zero]⟩
        case round =>
          obtain ⟨i, hi, hgas2, rfl, ⟨z3, rfl⟩, hfb2⟩ := hrel
          by_cases hlti : i < l.length
          · rw [firstBad_drop _ hlti] at hfb2
            have hoe : openRE ⟨sA, sc, cals, sB, sd, R, most⟩ L l i = if most < openR L l[i].start l then 28 else 0 := by unfold openRE; rw [getS_at hlti]
            have OK := OP l[i].start
            have hrl := HO.out.1.of (w' := z3.wd) (by (repeat (first | (with_reducible exact SinceOf.refl _) | (with_reducible assumption) | (with_reducible refine SinceOf.alloc ?_ _) | (with_reducible refine SinceOf.drew ?_) | (with_reducible refine SinceOf.drewN ?_ _) | (with_reducible refine SinceOf.later ?_ _) | (with_reducible refine SinceOf.further ?_ _) | (with_reducible refine SinceOf.setCell ?_ (by first | exact Nat.le_refl _ | (simp; done) | omega | (simp; omega)) _))))
            obtain ⟨g, off, rfl, hr⟩ := hrl.at_ (by omega)
            have hO := hr.there
            have s0 := hr.s0 i hlti
            have s1 := hr.s1 i hlti
            have s2 := hr.s2 i hlti
            have s3 := hr.s3 i hlti
            generalize l[i].start = xs at *
            generalize l[i].stop = xe at *
            generalize l[i].mach = xm at *
            generalize l[i].job = xj at *
            generalize openR L xs l = on at *
            clear hr hrl
            by_cases hlt3 : most < on
            · rw [hoe, if_pos hlt3, if_neg (by omega)] at hfb2
              have hd : decide (most < on) = true := by simpa using hlt3
              have HG := Lib.hid hfb2
              clear hfb2 hoe hlt3
              go_wp2_with fail
              refine region_later (by kernel_rfl) (by kernel_rfl) ?_
              repeat (go_big_quiet_step ((with_reducible refine Gives.later (OK _ (by (repeat (first | (with_reducible exact SinceOf.refl _) | (with_reducible assumption) | (with_reducible refine SinceOf.alloc ?_ _) | (with_reducible refine SinceOf.drew ?_) | (with_reducible refine SinceOf.drewN ?_ _) | (with_reducible refine SinceOf.later ?_ _) | (with_reducible refine SinceOf.further ?_ _) | (with_reducible refine SinceOf.setCell ?_ (by first | exact Nat.le_refl _ | (simp; done) | omega | (simp; omega)) _))))))))
              refine wpQuiet_nil ?_
              rintro _ ⟨z4, rfl⟩
              go_wp2_with fail
              go_returns
              have hvv : validR ⟨sA, sc, cals, sB, sd, R, most⟩ L l = ((i : Int), 28) := by unfold validR; rw [HF.out, HG.out]
              refine ⟨?_, by (repeat (first | (with_reducible exact LaterOf.refl _) | (with_reducible refine LaterOf.alloc ?_ _) | (with_reducible refine LaterOf.drew ?_) | (with_reducible refine LaterOf.drewN ?_ _) | (with_reducible refine LaterOf.later ?_ _) | (with_reducible refine LaterOf.setCell ?_ (by first | exact Nat.le_refl _ | (simp; done) | omega | (simp; omega)) _)))⟩
              rw [HO.out.2.2.1, HO.out.2.2.2, hvv]
              try rfl
            · rw [hoe, if_neg hlt3, if_pos rfl] at hfb2
              have hd : decide (most < on) = false := by simpa using hlt3
              have HG := Lib.hid hfb2
              clear hfb2 hoe hlt3
              go_wp2_with fail
              refine region_later (by kernel_rfl) (by kernel_rfl) ?_
              repeat (go_big_quiet_step ((with_reducible refine Gives.later (OK _ (by (repeat (first | (with_reducible exact SinceOf.refl _) | (with_reducible assumption) | (with_reducible refine SinceOf.alloc ?_ _) | (with_reducible refine SinceOf.drew ?_) | (with_reducible refine SinceOf.drewN ?_ _) | (with_reducible refine SinceOf.later ?_ _) | (with_reducible refine SinceOf.further ?_ _) | (with_reducible refine SinceOf.setCell ?_ (by first | exact Nat.le_refl _ | (simp; done) | omega | (simp; omega)) _))))))))
              refine wpQuiet_nil ?_
              rintro _ ⟨z4, rfl⟩
              go_wp2_with fail
              go_roundg (l.length - (i + 1))
              case measure => omega
              case rel => exact ⟨i + 1, hlti, Nat.le_refl _, by go_num, by (repeat (first | (with_reducible exact LaterOf.refl _) | (with_reducible refine LaterOf.alloc ?_ _) | (with_reducible refine LaterOf.drew ?_) | (with_reducible refine LaterOf.drewN ?_ _) | (with_reducible refine LaterOf.later ?_ _) | (with_reducible refine LaterOf.setCell ?_ (by first | exact Nat.le_refl _ | (simp; done) | omega | (simp; omega)) _))), HG.out⟩
          · have hil : i = l.length := by omega
            rw [hil, firstBad_end] at hfb2
            have HG := Lib.hid hfb2
            clear hfb2 hil
            go_wp2_with fail
            go_returns
            have hvv : validR ⟨sA, sc, cals, sB, sd, R, most⟩ L l = ((l.length : Int), 0) := by unfold validR; rw [HF.out, HG.out]
            refine ⟨?_, by (repeat (first | (with_reducible exact LaterOf.refl _) | (with_reducible refine LaterOf.alloc ?_ _) | (with_reducible refine LaterOf.drew ?_) | (with_reducible refine LaterOf.drewN ?_ _) | (with_reducible refine LaterOf.later ?_ _) | (with_reducible refine LaterOf.setCell ?_ (by first | exact Nat.le_refl _ | (simp; done) | omega | (simp; omega)) _)))⟩
            rw [HO.out.2.2.1, HO.out.2.2.2, hvv]
            try rfl
end Go.Proofs.Ytdcncalcncomoaa
