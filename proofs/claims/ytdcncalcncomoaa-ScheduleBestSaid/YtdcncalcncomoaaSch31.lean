/- Layer 52 (reference): set-up works. -/
import Derived.Test.YtdcncalcncomoaaSch6
namespace Go.Proofs.Ytdcncalcncomoaa
open Go.RowKit Go.Sort
set_option linter.unusedVariables false
attribute [local go_sem ↓] Go.wp_at_zero Go.wp_at_succ

def lenAt (R : List RowR) (a : Nat) : Nat := (R.getD a ⟨none, 0, []⟩).xs.length
def cellR (R : List RowR) (a k : Nat) : Bool := decide (0 ≤ get2 R a k) && decide (get2 R a k ≤ 1000)
def rowB (R : List RowR) (a : Nat) : Bool := ((lenAt R a : Int) == (R.length : Int) && get2 R a a == 0) && (List.range R.length).all (cellR R a)
def part1 (R : List RowR) : Bool := (List.range R.length).all (rowB R)
def triR (R : List RowR) (a k m : Nat) : Bool := decide (get2 R a m ≤ wadd (get2 R a k) (get2 R k m))
def tri1 (R : List RowR) (a k : Nat) : Bool := (List.range R.length).all (triR R a k)
def tri2 (R : List RowR) (a : Nat) : Bool := (List.range R.length).all (tri1 R a)
def part2 (R : List RowR) : Bool := (List.range R.length).all (tri2 R)
def setupsR (R : List RowR) : Bool := (decide (1 ≤ (R.length : Int)) && decide ((R.length : Int) ≤ 8)) && (part1 R && part2 R)
theorem lenAt_at {R : List RowR} {a : Nat} (h : a < R.length) : lenAt R a = R[a].xs.length := by
  unfold lenAt; rw [List.getD_eq_getElem?_getD, List.getElem?_eq_getElem h, Option.getD_some]
theorem part1_len {R : List RowR} (h : part1 R = true) : ∀ a (ha : a < R.length), R[a].xs.length = R.length := fun a ha => by
  have := List.all_eq_true.1 h a (by simpa using ha)
  unfold rowB at this
  simp only [Bool.and_eq_true, beq_iff_eq] at this
  rw [lenAt_at ha] at this
  omega
set_option maxRecDepth 100000 in
set_option maxHeartbeats 8000000 in
theorem setups_any (A : Option Addr) (c : Nat) (R : List RowR) (w : World) (h : IsRows w A c R) : Gives Try.prog 56 #[.slice A R.length c] w (.bool (setupsR R)) := by
  apply Gives.ret
  have hl := h.len
  have H := Lib.hid h
  clear h
  unfold setupsR
  by_cases h1 : R.length < 1
  · have e : decide (1 ≤ (R.length : Int)) = false := by simp; omega
    rw [e]
    clear e
    go_enter Try.func56, Try.ntmps56
    go_wp2_with fail
    go_returns
    exact ⟨by simp, by (repeat (first | (with_reducible exact LaterOf.refl _) | (with_reducible refine LaterOf.alloc ?_ _) | (with_reducible refine LaterOf.drew ?_) | (with_reducible refine LaterOf.drewN ?_ _) | (with_reducible refine LaterOf.later ?_ _) | (with_reducible refine LaterOf.setCell ?_ (by first | exact Nat.le_refl _ | (simp; done) | omega | (simp; omega)) _)))⟩
  · have e : decide (1 ≤ (R.length : Int)) = true := by simp; omega
    rw [e]
    clear e
    by_cases h8 : 8 < R.length
    · have e : decide ((R.length : Int) ≤ 8) = false := by simp; omega
      rw [e]
      clear e
      go_enter Try.func56, Try.ntmps56
      go_wp2_with fail
      go_returns
      exact ⟨by simp, by (repeat (first | (with_reducible exact LaterOf.refl _) | (with_reducible refine LaterOf.alloc ?_ _) | (with_reducible refine LaterOf.drew ?_) | (with_reducible refine LaterOf.drewN ?_ _) | (with_reducible refine LaterOf.later ?_ _) | (with_reducible refine LaterOf.setCell ?_ (by first | exact Nat.le_refl _ | (simp; done) | omega | (simp; omega)) _)))⟩
    · have e : decide ((R.length : Int) ≤ 8) = true := by simp; omega
      rw [e, Bool.true_and, Bool.true_and]
      clear e
      go_enter Try.func56, Try.ntmps56
      go_wp2_with fail
      go_loopg [4] R.length (fun gas s4 wr => ∃ a : Nat, a ≤ R.length ∧ R.length - a ≤ gas ∧ s4 = .int .i64 a ∧ LaterOf w wr ∧ part1 R = ((List.range R.length).drop a).all (rowB R))
      case atStart => exact ⟨0, by omega, by omega, rfl, by (repeat (first | (with_reducible exact LaterOf.refl _) | (with_reducible refine LaterOf.alloc ?_ _) | (with_reducible refine LaterOf.drew ?_) | (with_reducible refine LaterOf.drewN ?_ _) | (with_reducible refine LaterOf.later ?_ _) | (with_reducible refine LaterOf.setCell ?_ (by first | exact Nat.le_refl _ | (simp; done) | omega | (simp; omega)) _))), by rw [List.drop_zero]; rfl⟩
      case round =>
        obtain ⟨a, ha, hgas, rfl, ⟨z, rfl⟩, hp⟩ := hrel
        by_cases hlta : a < R.length
        · rw [all_range _ hlta] at hp
          have hc := H.out.of (w' := z.wd) (by (repeat (first | (with_reducible exact SinceOf.refl _) | (with_reducible assumption) | (with_reducible refine SinceOf.alloc ?_ _) | (with_reducible refine SinceOf.drew ?_) | (with_reducible refine SinceOf.drewN ?_ _) | (with_reducible refine SinceOf.later ?_ _) | (with_reducible refine SinceOf.further ?_ _) | (with_reducible refine SinceOf.setCell ?_ (by first | exact Nat.le_refl _ | (simp; done) | omega | (simp; omega)) _))))
          have hra := hc.all _ (List.getElem_mem hlta)
          obtain ⟨g, off, rfl, hr⟩ := hc.row.at_ (by omega)
          have hO := hr.there
          have r0 := hr.r0 a hlta
          have hrow : rowB R a = (((R[a].xs.length : Int) == (R.length : Int) && get2 R a a == 0) && (List.range R.length).all (cellR R a)) := by unfold rowB; rw [lenAt_at hlta]
          by_cases hn : R[a].xs.length = R.length
          · obtain ⟨ga, offa, hAa, hrw⟩ := hra.1.at_ (by omega)
            have hOa := hrw.there
            have n0 := hrw.n0 a (by omega)
            rw [← get2_at hlta (by omega)] at n0
            rw [hAa, hn] at r0
            have hnb : ((R.length : Int) == (R.length : Int)) = true := by simp
            rw [hn, hnb, Bool.true_and] at hrow
            have hcn : R[a].c = R[a].c := rfl
            generalize R[a].c = ca at *
            by_cases h0 : get2 R a a = 0
            · rw [show (get2 R a a == 0) = true from by simpa using h0, Bool.true_and] at hrow
              rw [h0] at n0
              have HP := Lib.hid (And.intro hp (And.intro hrow hra))
              have HN := Lib.hid (And.intro hn hAa)
              clear hp hrow hc hr hra hrw hAa h0 hcn hn hnb
              go_wp2_with fail
              go_loopg [5] R.length (fun gas s5 wr => ∃ k : Nat, k ≤ R.length ∧ R.length - k ≤ gas ∧ s5 = .int .i64 k ∧ LaterOf z.wd wr ∧ (List.range R.length).all (cellR R a) = ((List.range R.length).drop k).all (cellR R a))
              case atStart => exact ⟨0, by omega, by omega, rfl, by (repeat (first | (with_reducible exact LaterOf.refl _) | (with_reducible refine LaterOf.alloc ?_ _) | (with_reducible refine LaterOf.drew ?_) | (with_reducible refine LaterOf.drewN ?_ _) | (with_reducible refine LaterOf.later ?_ _) | (with_reducible refine LaterOf.setCell ?_ (by first | exact Nat.le_refl _ | (simp; done) | omega | (simp; omega)) _))), by rw [List.drop_zero]⟩
              case round =>
                obtain ⟨k, hk, hgas2, rfl, ⟨z2, rfl⟩, hl2⟩ := hrel
                by_cases hltk : k < R.length
                · rw [all_range _ hltk] at hl2
                  have hn := HN.out.1
                  have hra2 := (HP.out.2.2.1).of (w' := z2.wd) (by (repeat (first | (with_reducible exact SinceOf.refl _) | (with_reducible assumption) | (with_reducible refine SinceOf.alloc ?_ _) | (with_reducible refine SinceOf.drew ?_) | (with_reducible refine SinceOf.drewN ?_ _) | (with_reducible refine SinceOf.later ?_ _) | (with_reducible refine SinceOf.further ?_ _) | (with_reducible refine SinceOf.setCell ?_ (by first | exact Nat.le_refl _ | (simp; done) | omega | (simp; omega)) _))))
                  rw [HN.out.2] at hra2
                  obtain ⟨gb, ob, hAb, hrw⟩ := hra2.at_ (by omega)
                  injection hAb with hAb
                  injection hAb with hg1 ho1
                  subst hg1 ho1
                  have m0 := hrw.n0 k (by omega)
                  rw [← get2_at hlta (by omega)] at m0
                  have hcl : cellR R a k = (decide (0 ≤ get2 R a k) && decide (get2 R a k ≤ 1000)) := rfl
                  generalize get2 R a k = u at *
                  by_cases hu0 : u < 0
                  · rw [show decide (0 ≤ u) = false from by simpa using hu0, Bool.false_and] at hcl
                    have HL := Lib.hid (And.intro hl2 hcl)
                    clear hl2 hcl hra2 hrw hn
                    go_wp2_with fail
                    go_returns
                    exact ⟨by rw [HP.out.1, HP.out.2.1, HL.out.1, HL.out.2]; rfl, by (repeat (first | (with_reducible exact LaterOf.refl _) | (with_reducible refine LaterOf.alloc ?_ _) | (with_reducible refine LaterOf.drew ?_) | (with_reducible refine LaterOf.drewN ?_ _) | (with_reducible refine LaterOf.later ?_ _) | (with_reducible refine LaterOf.setCell ?_ (by first | exact Nat.le_refl _ | (simp; done) | omega | (simp; omega)) _)))⟩
                  · rw [show decide (0 ≤ u) = true from by simp; omega, Bool.true_and] at hcl
                    by_cases hu1 : 1000 < u
                    · rw [show decide (u ≤ 1000) = false from by simp; omega] at hcl
                      have HL := Lib.hid (And.intro hl2 hcl)
                      clear hl2 hcl hra2 hrw hn
                      go_wp2_with fail
                      go_returns
                      exact ⟨by rw [HP.out.1, HP.out.2.1, HL.out.1, HL.out.2]; rfl, by (repeat (first | (with_reducible exact LaterOf.refl _) | (with_reducible refine LaterOf.alloc ?_ _) | (with_reducible refine LaterOf.drew ?_) | (with_reducible refine LaterOf.drewN ?_ _) | (with_reducible refine LaterOf.later ?_ _) | (with_reducible refine LaterOf.setCell ?_ (by first | exact Nat.le_refl _ | (simp; done) | omega | (simp; omega)) _)))⟩
                    · rw [show decide (u ≤ 1000) = true from by simp; omega] at hcl
                      have HL := Lib.hid (And.intro hl2 hcl)
                      clear hl2 hcl hra2 hrw hn
                      go_wp2_with fail
                      go_roundg (R.length - (k + 1))
                      case measure => omega
                      case rel => exact ⟨k + 1, hltk, Nat.le_refl _, by go_num, by (repeat (first | (with_reducible exact LaterOf.refl _) | (with_reducible refine LaterOf.alloc ?_ _) | (with_reducible refine LaterOf.drew ?_) | (with_reducible refine LaterOf.drewN ?_ _) | (with_reducible refine LaterOf.later ?_ _) | (with_reducible refine LaterOf.setCell ?_ (by first | exact Nat.le_refl _ | (simp; done) | omega | (simp; omega)) _))), by rw [HL.out.1, HL.out.2, Bool.true_and]⟩
                · have hkl : k = R.length := by omega
                  rw [hkl, all_range_end] at hl2
                  have HL := Lib.hid hl2
                  clear hl2 hkl
                  go_wp2_with fail
                  go_roundg (R.length - (a + 1))
                  case measure => omega
                  case rel => exact ⟨a + 1, hlta, Nat.le_refl _, by go_num, by (repeat (first | (with_reducible exact LaterOf.refl _) | (with_reducible refine LaterOf.alloc ?_ _) | (with_reducible refine LaterOf.drew ?_) | (with_reducible refine LaterOf.drewN ?_ _) | (with_reducible refine LaterOf.later ?_ _) | (with_reducible refine LaterOf.setCell ?_ (by first | exact Nat.le_refl _ | (simp; done) | omega | (simp; omega)) _))), by rw [HP.out.1, HP.out.2.1, HL.out, Bool.true_and]⟩
            · rw [show (get2 R a a == 0) = false from by simpa using h0, Bool.false_and] at hrow
              have hb : (get2 R a a != 0) = true := by simpa using h0
              generalize get2 R a a = u at *
              have HP := Lib.hid (And.intro hp hrow)
              clear hp hrow hc hr hra hrw hAa h0 hcn hn hnb
              go_wp2_with fail
              go_returns
              exact ⟨by rw [HP.out.1, HP.out.2]; rfl, by (repeat (first | (with_reducible exact LaterOf.refl _) | (with_reducible refine LaterOf.alloc ?_ _) | (with_reducible refine LaterOf.drew ?_) | (with_reducible refine LaterOf.drewN ?_ _) | (with_reducible refine LaterOf.later ?_ _) | (with_reducible refine LaterOf.setCell ?_ (by first | exact Nat.le_refl _ | (simp; done) | omega | (simp; omega)) _)))⟩
          · have hb : ((R[a].xs.length : Int) != (R.length : Int)) = true := by simp; omega
            rw [show ((R[a].xs.length : Int) == (R.length : Int)) = false from by simp; omega, Bool.false_and, Bool.false_and] at hrow
            generalize R[a] = r at *
            have HP := Lib.hid (And.intro hp hrow)
            clear hp hrow hc hr hra hn
            go_wp2_with fail
            go_returns
            exact ⟨by rw [HP.out.1, HP.out.2]; rfl, by (repeat (first | (with_reducible exact LaterOf.refl _) | (with_reducible refine LaterOf.alloc ?_ _) | (with_reducible refine LaterOf.drew ?_) | (with_reducible refine LaterOf.drewN ?_ _) | (with_reducible refine LaterOf.later ?_ _) | (with_reducible refine LaterOf.setCell ?_ (by first | exact Nat.le_refl _ | (simp; done) | omega | (simp; omega)) _)))⟩
        · have hal : a = R.length := by omega
          rw [hal, all_range_end] at hp
          have HP := Lib.hid (And.intro hp (part1_len hp))
          clear hp hal
          go_wp2_with fail
          go_loopg [6] R.length (fun gas s6 wr => ∃ a : Nat, a ≤ R.length ∧ R.length - a ≤ gas ∧ s6 = .int .i64 a ∧ LaterOf w wr ∧ part2 R = ((List.range R.length).drop a).all (tri2 R))
          case atStart => exact ⟨0, by omega, by omega, rfl, by (repeat (first | (with_reducible exact LaterOf.refl _) | (with_reducible refine LaterOf.alloc ?_ _) | (with_reducible refine LaterOf.drew ?_) | (with_reducible refine LaterOf.drewN ?_ _) | (with_reducible refine LaterOf.later ?_ _) | (with_reducible refine LaterOf.setCell ?_ (by first | exact Nat.le_refl _ | (simp; done) | omega | (simp; omega)) _))), by rw [List.drop_zero]; rfl⟩
          case round =>
            obtain ⟨a, ha, hgas, rfl, ⟨z, rfl⟩, hp⟩ := hrel
            by_cases hlta : a < R.length
            · rw [all_range _ hlta] at hp
              have HA := Lib.hid hp
              clear hp
              go_wp2_with fail
              go_loopg [7] R.length (fun gas s7 wr => ∃ k : Nat, k ≤ R.length ∧ R.length - k ≤ gas ∧ s7 = .int .i64 k ∧ LaterOf w wr ∧ tri2 R a = ((List.range R.length).drop k).all (tri1 R a))
              case atStart => exact ⟨0, by omega, by omega, rfl, by (repeat (first | (with_reducible exact LaterOf.refl _) | (with_reducible refine LaterOf.alloc ?_ _) | (with_reducible refine LaterOf.drew ?_) | (with_reducible refine LaterOf.drewN ?_ _) | (with_reducible refine LaterOf.later ?_ _) | (with_reducible refine LaterOf.setCell ?_ (by first | exact Nat.le_refl _ | (simp; done) | omega | (simp; omega)) _))), by rw [List.drop_zero]; rfl⟩
              case round =>
                obtain ⟨k, hk, hgas2, rfl, ⟨z2, rfl⟩, hp⟩ := hrel
                by_cases hltk : k < R.length
                · rw [all_range _ hltk] at hp
                  have HK := Lib.hid hp
                  clear hp
                  go_wp2_with fail
                  go_loopg [8] R.length (fun gas s8 wr => ∃ m : Nat, m ≤ R.length ∧ R.length - m ≤ gas ∧ s8 = .int .i64 m ∧ LaterOf w wr ∧ tri1 R a k = ((List.range R.length).drop m).all (triR R a k))
                  case atStart => exact ⟨0, by omega, by omega, rfl, by (repeat (first | (with_reducible exact LaterOf.refl _) | (with_reducible refine LaterOf.alloc ?_ _) | (with_reducible refine LaterOf.drew ?_) | (with_reducible refine LaterOf.drewN ?_ _) | (with_reducible refine LaterOf.later ?_ _) | (with_reducible refine LaterOf.setCell ?_ (by first | exact Nat.le_refl _ | (simp; done) | omega | (simp; omega)) _))), by rw [List.drop_zero]; rfl⟩
                  case round =>
                    obtain ⟨m, hm, hgas3, rfl, ⟨z3, rfl⟩, htri⟩ := hrel
                    by_cases hltm : m < R.length
                    · rw [all_range _ hltm] at htri
                      have hxa := HP.out.2 a hlta
                      have hxk := HP.out.2 k hltk
                      have hc := H.out.of (w' := z3.wd) (by (repeat (first | (with_reducible exact SinceOf.refl _) | (with_reducible assumption) | (with_reducible refine SinceOf.alloc ?_ _) | (with_reducible refine SinceOf.drew ?_) | (with_reducible refine SinceOf.drewN ?_ _) | (with_reducible refine SinceOf.later ?_ _) | (with_reducible refine SinceOf.further ?_ _) | (with_reducible refine SinceOf.setCell ?_ (by first | exact Nat.le_refl _ | (simp; done) | omega | (simp; omega)) _))))
                      have hra := (hc.all _ (List.getElem_mem hlta)).1
                      have hrk := (hc.all _ (List.getElem_mem hltk)).1
                      obtain ⟨g, off, hA, hr⟩ := hc.row.at_ (by omega)
                      have hO := hr.there
                      have r0 := hr.r0 a hlta
                      have r1 := hr.r0 k hltk
                      obtain ⟨ga, oa, hAa, hrwa⟩ := hra.at_ (by omega)
                      obtain ⟨gk, ok, hAk, hrwk⟩ := hrk.at_ (by omega)
                      have hOa := hrwa.there
                      have hOk := hrwk.there
                      have m0 := hrwa.n0 m (by omega)
                      have m1 := hrwa.n0 k (by omega)
                      have m2 := hrwk.n0 m (by omega)
                      rw [← get2_at hlta (by omega)] at m0 m1
                      rw [← get2_at hltk (by omega)] at m2
                      rw [hAa, hxa] at r0
                      rw [hAk, hxk] at r1
                      subst hA
                      have htr : triR R a k m = decide (get2 R a m ≤ wadd (get2 R a k) (get2 R k m)) := rfl
                      generalize get2 R a m = u0 at *
                      generalize get2 R a k = u1 at *
                      generalize get2 R k m = u2 at *
                      generalize R[a].c = ca at *
                      generalize R[k].c = ck at *
                      unfold wadd at htr
                      by_cases hle : u0 ≤ wrap64 (u1 + u2)
                      · have hd : decide (wrap64 (u1 + u2) < u0) = false := by simp; omega
                        rw [htr, show decide (u0 ≤ wrap64 (u1 + u2)) = true from by simpa using hle, Bool.true_and] at htri
                        have HT := Lib.hid htri
                        clear htri htr hle hxa hxk hc hra hrk hr hAa hAk hrwa hrwk
                        go_wp2_with fail
                        refine region_later (by kernel_rfl) (by kernel_rfl) ?_
                        repeat (go_big_quiet_step (fail))
                        refine wpQuiet_nil ?_
                        rintro _ ⟨z4, rfl⟩
                        go_wp2_with fail
                        go_roundg (R.length - (m + 1))
                        case measure => omega
                        case rel => exact ⟨m + 1, hltm, Nat.le_refl _, by go_num, by (repeat (first | (with_reducible exact LaterOf.refl _) | (with_reducible refine LaterOf.alloc ?_ _) | (with_reducible refine LaterOf.drew ?_) | (with_reducible refine LaterOf.drewN ?_ _) | (with_reducible refine LaterOf.later ?_ _) | (with_reducible refine LaterOf.setCell ?_ (by first | exact Nat.le_refl _ | (simp; done) | omega | (simp; omega)) _))), HT.out⟩
                      · have hd : decide (wrap64 (u1 + u2) < u0) = true := by simp; omega
                        rw [htr, show decide (u0 ≤ wrap64 (u1 + u2)) = false from by simpa using hle, Bool.false_and] at htri
                        have HT := Lib.hid htri
                        clear htri htr hle hxa hxk hc hra hrk hr hAa hAk hrwa hrwk
                        go_wp2_with fail
                        refine region_later (by kernel_rfl) (by kernel_rfl) ?_
                        repeat (go_big_quiet_step (fail))
                        refine wpQuiet_nil ?_
                        rintro _ ⟨z4, rfl⟩
                        go_wp2_with fail
                        go_returns
                        exact ⟨by rw [HA.out, HK.out, HT.out]; simp, by (repeat (first | (with_reducible exact LaterOf.refl _) | (with_reducible refine LaterOf.alloc ?_ _) | (with_reducible refine LaterOf.drew ?_) | (with_reducible refine LaterOf.drewN ?_ _) | (with_reducible refine LaterOf.later ?_ _) | (with_reducible refine LaterOf.setCell ?_ (by first | exact Nat.le_refl _ | (simp; done) | omega | (simp; omega)) _)))⟩
                    · have hml : m = R.length := by omega
                      rw [hml, all_range_end] at htri
                      have HT := Lib.hid htri
                      clear htri hml
                      go_wp2_with fail
                      go_roundg (R.length - (k + 1))
                      case measure => omega
                      case rel => exact ⟨k + 1, hltk, Nat.le_refl _, by go_num, by (repeat (first | (with_reducible exact LaterOf.refl _) | (with_reducible refine LaterOf.alloc ?_ _) | (with_reducible refine LaterOf.drew ?_) | (with_reducible refine LaterOf.drewN ?_ _) | (with_reducible refine LaterOf.later ?_ _) | (with_reducible refine LaterOf.setCell ?_ (by first | exact Nat.le_refl _ | (simp; done) | omega | (simp; omega)) _))), by rw [HK.out, HT.out, Bool.true_and]⟩
                · have hkl : k = R.length := by omega
                  rw [hkl, all_range_end] at hp
                  have HK := Lib.hid hp
                  clear hp hkl
                  go_wp2_with fail
                  go_roundg (R.length - (a + 1))
                  case measure => omega
                  case rel => exact ⟨a + 1, hlta, Nat.le_refl _, by go_num, by (repeat (first | (with_reducible exact LaterOf.refl _) | (with_reducible refine LaterOf.alloc ?_ _) | (with_reducible refine LaterOf.drew ?_) | (with_reducible refine LaterOf.drewN ?_ _) | (with_reducible refine LaterOf.later ?_ _) | (with_reducible refine LaterOf.setCell ?_ (by first | exact Nat.le_refl _ | (simp; done) | omega | (simp; omega)) _))), by rw [HA.out, HK.out, Bool.true_and]⟩
            · have hal : a = R.length := by omega
              rw [hal, all_range_end] at hp
              have HA := Lib.hid hp
              clear hp hal
              go_wp2_with fail
              go_returns
              exact ⟨by rw [HP.out.1, HA.out]; rfl, by (repeat (first | (with_reducible exact LaterOf.refl _) | (with_reducible refine LaterOf.alloc ?_ _) | (with_reducible refine LaterOf.drew ?_) | (with_reducible refine LaterOf.drewN ?_ _) | (with_reducible refine LaterOf.later ?_ _) | (with_reducible refine LaterOf.setCell ?_ (by first | exact Nat.le_refl _ | (simp; done) | omega | (simp; omega)) _)))⟩
end Go.Proofs.Ytdcncalcncomoaa
