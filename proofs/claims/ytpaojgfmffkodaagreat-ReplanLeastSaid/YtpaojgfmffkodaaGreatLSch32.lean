/- Layer 52 (reference): set-up works. -/
import Derived.Test.YtpaojgfmffkodaaGreatLSch11
import Derived.Test.YtpaojgfmffkodaaGreatLSch20
namespace Go.Proofs.YtpaojgfmffkodaaGreat
set_option linter.unusedVariables false
set_option linter.unusedSimpArgs false
open Go.RowKit Go.Sort
attribute [local go_sem ↓] Go.wp_at_zero Go.wp_at_succ
def lenAt (R : List RowR) (a : Nat) : Nat := (R.getD a ⟨none, 0, []⟩).xs.length
def cellR (R : List RowR) (a k : Nat) : Bool := decide (0 ≤ get2 R a k) && decide (get2 R a k ≤ 1000)
def rowB (R : List RowR) (a : Nat) : Bool := ((lenAt R a : Int) == (R.length : Int) && get2 R a a == 0) && (List.range R.length).all (cellR R a)
def part1 (R : List RowR) : Bool := (List.range R.length).all (rowB R)
def triR (R : List RowR) (a k m : Nat) : Bool := decide (get2 R a m ≤ wadd (get2 R a k) (get2 R k m))
def tri1 (R : List RowR) (a k : Nat) : Bool := (List.range R.length).all (triR R a k)
def tri2 (R : List RowR) (a : Nat) : Bool := (List.range R.length).all (tri1 R a)
def part2 (R : List RowR) : Bool := (List.range R.length).all (tri2 R)
def setupsR (R : List RowR) : Bool := (decide (1 ≤ (R.length : Int)) && decide ((R.length : Int) ≤ 8)) && (part1 R && part2 R)
theorem lenAt_at {R : List RowR} {a : Nat} (h : a < R.length) : lenAt R a = R[a].xs.length := by
  unfold lenAt; rw [List.getD_eq_getElem?_getD, List.getElem?_eq_getElem h, Option.getD_some]
theorem part1_len {R : List RowR} (h : part1 R = true) : ∀ a (ha : a < R.length), R[a].xs.length = R.length := fun a ha => by
  have := List.all_eq_true.1 h a (by simpa using ha)
  unfold rowB at this
  simp only [Bool.and_eq_true, beq_iff_eq] at this
  rw [lenAt_at ha] at this
  omega
set_option maxRecDepth 100000 in
set_option maxHeartbeats 8000000 in
theorem setups_any (A : Option Addr) (c : Nat) (R : List RowR) (w : World) (h : IsRows w A c R) : Gives Tryz.prog 118 #[.slice A R.length c] w (.bool (setupsR R)) := by
  apply Gives.ret
  have hl := h.len
  have H := Lib.hid h
  clear h
  unfold setupsR
  by_cases h1 : R.length < 1
  · have e : decide (1 ≤ (R.length : Int)) = false := by simp; omega
    rw [e]
    clear e
    go_enter Tryz.func118, Tryz.ntmps118
    go_wp2_with fail
    go_returns
    exact ⟨by simp, Lx⟩
  · have e : decide (1 ≤ (R.length : Int)) = true := by simp; omega
    rw [e]
    clear e
    by_cases h8 : 8 < R.length
    · have e : decide ((R.length : Int) ≤ 8) = false := by simp; omega
      rw [e]
      clear e
      go_enter Tryz.func118, Tryz.ntmps118
      go_wp2_with fail
      go_returns
      exact ⟨by simp, Lx⟩
    · have e : decide ((R.length : Int) ≤ 8) = true := by simp; omega
      rw [e, Bool.true_and, Bool.true_and]
      clear e
      go_enter Tryz.func118, Tryz.ntmps118
      go_wp2_with fail
      go_loopg [4] R.length (fun gas s4 wr => ∃ a : Nat, a ≤ R.length ∧ R.length - a ≤ gas ∧ s4 = .int .i64 a ∧ LaterOf w wr ∧ part1 R = ((List.range R.length).drop a).all (rowB R))
      case atStart => exact ⟨0, by omega, by omega, rfl, Lx, by rw [List.drop_zero]; rfl⟩
      case round =>
        obtain ⟨a, ha, hgas, rfl, ⟨z, rfl⟩, hp⟩ := hrel
        by_cases hlta : a < R.length
        · rw [all_range _ hlta] at hp
          have hc := H.out.of (w' := z.wd) Sx
          have hra := hc.all _ (List.getElem_mem hlta)
          obtain ⟨g, off, rfl, hr⟩ := hc.row.at_ (by omega)
          have hO := hr.there
          have r0 := hr.r0 a hlta
          have hrow : rowB R a = (((R[a].xs.length : Int) == (R.length : Int) && get2 R a a == 0) && (List.range R.length).all (cellR R a)) := by unfold rowB; rw [lenAt_at hlta]
          by_cases hn : R[a].xs.length = R.length
          · obtain ⟨ga, offa, hAa, hrw⟩ := hra.1.at_ (by omega)
            have hOa := hrw.there
            have n0 := hrw.n0 a (by omega)
            rw [← get2_at hlta (by omega)] at n0
            rw [hAa, hn] at r0
            have hnb : ((R.length : Int) == (R.length : Int)) = true := by simp
            rw [hn, hnb, Bool.true_and] at hrow
            have hcn : R[a].c = R[a].c := rfl
            generalize R[a].c = ca at *
            by_cases h0 : get2 R a a = 0
            · rw [show (get2 R a a == 0) = true from by simpa using h0, Bool.true_and] at hrow
              rw [h0] at n0
              have HP := Lib.hid (And.intro hp (And.intro hrow hra))
              have HN := Lib.hid (And.intro hn hAa)
              clear hp hrow hc hr hra hrw hAa h0 hcn hn hnb
              go_wp2_with fail
              go_loopg [5] R.length (fun gas s5 wr => ∃ k : Nat, k ≤ R.length ∧ R.length - k ≤ gas ∧ s5 = .int .i64 k ∧ LaterOf z.wd wr ∧ (List.range R.length).all (cellR R a) = ((List.range R.length).drop k).all (cellR R a))
              case atStart => exact ⟨0, by omega, by omega, rfl, Lx, by rw [List.drop_zero]⟩
              case round =>
                obtain ⟨k, hk, hgas2, rfl, ⟨z2, rfl⟩, hl2⟩ := hrel
                by_cases hltk : k < R.length
                · rw [all_range _ hltk] at hl2
                  have hn := HN.out.1
                  have hra2 := (HP.out.2.2.1).of (w' := z2.wd) Sx
                  rw [HN.out.2] at hra2
                  obtain ⟨gb, ob, hAb, hrw⟩ := hra2.at_ (by omega)
                  injection hAb with hAb
                  injection hAb with hg1 ho1
                  subst hg1 ho1
                  have m0 := hrw.n0 k (by omega)
                  rw [← get2_at hlta (by omega)] at m0
                  have hcl : cellR R a k = (decide (0 ≤ get2 R a k) && decide (get2 R a k ≤ 1000)) := rfl
                  generalize get2 R a k = u at *
                  by_cases hu0 : u < 0
                  · rw [show decide (0 ≤ u) = false from by simpa using hu0, Bool.false_and] at hcl
                    have HL := Lib.hid (And.intro hl2 hcl)
                    clear hl2 hcl hra2 hrw hn
                    go_wp2_with fail
                    go_returns
                    exact ⟨by rw [HP.out.1, HP.out.2.1, HL.out.1, HL.out.2]; rfl, Lx⟩
                  · rw [show decide (0 ≤ u) = true from by simp; omega, Bool.true_and] at hcl
                    by_cases hu1 : 1000 < u
                    · rw [show decide (u ≤ 1000) = false from by simp; omega] at hcl
                      have HL := Lib.hid (And.intro hl2 hcl)
                      clear hl2 hcl hra2 hrw hn
                      go_wp2_with fail
                      go_returns
                      exact ⟨by rw [HP.out.1, HP.out.2.1, HL.out.1, HL.out.2]; rfl, Lx⟩
                    · rw [show decide (u ≤ 1000) = true from by simp; omega] at hcl
                      have HL := Lib.hid (And.intro hl2 hcl)
                      clear hl2 hcl hra2 hrw hn
                      go_wp2_with fail
                      go_roundg (R.length - (k + 1))
                      case measure => omega
                      case rel => exact ⟨k + 1, hltk, Nat.le_refl _, by go_num, Lx, by rw [HL.out.1, HL.out.2, Bool.true_and]⟩
                · have hkl : k = R.length := by omega
                  rw [hkl, all_range_end] at hl2
                  have HL := Lib.hid hl2
                  clear hl2 hkl
                  go_wp2_with fail
                  go_roundg (R.length - (a + 1))
                  case measure => omega
                  case rel => exact ⟨a + 1, hlta, Nat.le_refl _, by go_num, Lx, by rw [HP.out.1, HP.out.2.1, HL.out, Bool.true_and]⟩
            · rw [show (get2 R a a == 0) = false from by simpa using h0, Bool.false_and] at hrow
              have hb : (get2 R a a != 0) = true := by simpa using h0
              generalize get2 R a a = u at *
              have HP := Lib.hid (And.intro hp hrow)
              clear hp hrow hc hr hra hrw hAa h0 hcn hn hnb
              go_wp2_with fail
              go_returns
              exact ⟨by rw [HP.out.1, HP.out.2]; rfl, Lx⟩
          · have hb : ((R[a].xs.length : Int) != (R.length : Int)) = true := by simp; omega
            rw [show ((R[a].xs.length : Int) == (R.length : Int)) = false from by simp; omega, Bool.false_and, Bool.false_and] at hrow
            generalize R[a] = r at *
            have HP := Lib.hid (And.intro hp hrow)
            clear hp hrow hc hr hra hn
            go_wp2_with fail
            go_returns
            exact ⟨by rw [HP.out.1, HP.out.2]; rfl, Lx⟩
        · have hal : a = R.length := by omega
          rw [hal, all_range_end] at hp
          have HP := Lib.hid (And.intro hp (part1_len hp))
          clear hp hal
          go_wp2_with fail
          go_loopg [6] R.length (fun gas s6 wr => ∃ a : Nat, a ≤ R.length ∧ R.length - a ≤ gas ∧ s6 = .int .i64 a ∧ LaterOf w wr ∧ part2 R = ((List.range R.length).drop a).all (tri2 R))
          case atStart => exact ⟨0, by omega, by omega, rfl, Lx, by rw [List.drop_zero]; rfl⟩
          case round =>
            obtain ⟨a, ha, hgas, rfl, ⟨z, rfl⟩, hp⟩ := hrel
            by_cases hlta : a < R.length
            · rw [all_range _ hlta] at hp
              have HA := Lib.hid hp
              clear hp
              go_wp2_with fail
              go_loopg [7] R.length (fun gas s7 wr => ∃ k : Nat, k ≤ R.length ∧ R.length - k ≤ gas ∧ s7 = .int .i64 k ∧ LaterOf w wr ∧ tri2 R a = ((List.range R.length).drop k).all (tri1 R a))
              case atStart => exact ⟨0, by omega, by omega, rfl, Lx, by rw [List.drop_zero]; rfl⟩
              case round =>
                obtain ⟨k, hk, hgas2, rfl, ⟨z2, rfl⟩, hp⟩ := hrel
                by_cases hltk : k < R.length
                · rw [all_range _ hltk] at hp
                  have HK := Lib.hid hp
                  clear hp
                  go_wp2_with fail
                  go_loopg [8] R.length (fun gas s8 wr => ∃ m : Nat, m ≤ R.length ∧ R.length - m ≤ gas ∧ s8 = .int .i64 m ∧ LaterOf w wr ∧ tri1 R a k = ((List.range R.length).drop m).all (triR R a k))
                  case atStart => exact ⟨0, by omega, by omega, rfl, Lx, by rw [List.drop_zero]; rfl⟩
                  case round =>
                    obtain ⟨m, hm, hgas3, rfl, ⟨z3, rfl⟩, htri⟩ := hrel
                    by_cases hltm : m < R.length
                    · rw [all_range _ hltm] at htri
                      have hxa := HP.out.2 a hlta
                      have hxk := HP.out.2 k hltk
                      have hc := H.out.of (w' := z3.wd) Sx
                      have hra := (hc.all _ (List.getElem_mem hlta)).1
                      have hrk := (hc.all _ (List.getElem_mem hltk)).1
                      obtain ⟨g, off, hA, hr⟩ := hc.row.at_ (by omega)
                      have hO := hr.there
                      have r0 := hr.r0 a hlta
                      have r1 := hr.r0 k hltk
                      obtain ⟨ga, oa, hAa, hrwa⟩ := hra.at_ (by omega)
                      obtain ⟨gk, ok, hAk, hrwk⟩ := hrk.at_ (by omega)
                      have hOa := hrwa.there
                      have hOk := hrwk.there
                      have m0 := hrwa.n0 m (by omega)
                      have m1 := hrwa.n0 k (by omega)
                      have m2 := hrwk.n0 m (by omega)
                      rw [← get2_at hlta (by omega)] at m0 m1
                      rw [← get2_at hltk (by omega)] at m2
                      rw [hAa, hxa] at r0
                      rw [hAk, hxk] at r1
                      subst hA
                      have htr : triR R a k m = decide (get2 R a m ≤ wadd (get2 R a k) (get2 R k m)) := rfl
                      generalize get2 R a m = u0 at *
                      generalize get2 R a k = u1 at *
                      generalize get2 R k m = u2 at *
                      generalize R[a].c = ca at *
                      generalize R[k].c = ck at *
                      unfold wadd at htr
                      by_cases hle : u0 ≤ wrap64 (u1 + u2)
                      · have hd : decide (wrap64 (u1 + u2) < u0) = false := by simp; omega
                        rw [htr, show decide (u0 ≤ wrap64 (u1 + u2)) = true from by simpa using hle, Bool.true_and] at htri
                        have HT := Lib.hid htri
                        clear htri htr hle hxa hxk hc hra hrk hr hAa hAk hrwa hrwk
                        go_wp2_with fail
                        refine region_later (by kernel_rfl) (by kernel_rfl) ?_
                        repeat (go_big_quiet_step (fail))
                        refine wpQuiet_nil ?_
                        rintro _ ⟨z4, rfl⟩
                        go_wp2_with fail
                        go_roundg (R.length - (m + 1))
                        case measure => omega
                        case rel => exact ⟨m + 1, hltm, Nat.le_refl _, by go_num, Lx, HT.out⟩
                      · have hd : decide (wrap64 (u1 + u2) < u0) = true := by simp; omega
                        rw [htr, show decide (u0 ≤ wrap64 (u1 + u2)) = false from by simpa using hle, Bool.false_and] at htri
                        have HT := Lib.hid htri
                        clear htri htr hle hxa hxk hc hra hrk hr hAa hAk hrwa hrwk
                        go_wp2_with fail
                        refine region_later (by kernel_rfl) (by kernel_rfl) ?_
                        repeat (go_big_quiet_step (fail))
                        refine wpQuiet_nil ?_
                        rintro _ ⟨z4, rfl⟩
                        go_wp2_with fail
                        go_returns
                        exact ⟨by rw [HA.out, HK.out, HT.out]; simp, Lx⟩
                    · have hml : m = R.length := by omega
                      rw [hml, all_range_end] at htri
                      have HT := Lib.hid htri
                      clear htri hml
                      go_wp2_with fail
                      go_roundg (R.length - (k + 1))
                      case measure => omega
                      case rel => exact ⟨k + 1, hltk, Nat.le_refl _, by go_num, Lx, by rw [HK.out, HT.out, Bool.true_and]⟩
                · have hkl : k = R.length := by omega
                  rw [hkl, all_range_end] at hp
                  have HK := Lib.hid hp
                  clear hp hkl
                  go_wp2_with fail
                  go_roundg (R.length - (a + 1))
                  case measure => omega
                  case rel => exact ⟨a + 1, hlta, Nat.le_refl _, by go_num, Lx, by rw [HA.out, HK.out, Bool.true_and]⟩
            · have hal : a = R.length := by omega
              rw [hal, all_range_end] at hp
              have HA := Lib.hid hp
              clear hp hal
              go_wp2_with fail
              go_returns
              exact ⟨by rw [HP.out.1, HA.out]; rfl, Lx⟩
end Go.Proofs.YtpaojgfmffkodaaGreat
/- Layer 52 (reference): Check. (printed by gensch32.py) -/
namespace Go.Proofs.YtpaojgfmffkodaaGreat
set_option linter.unusedVariables false
set_option linter.unusedSimpArgs false
open Go.RowKit Go.Sort
attribute [local go_sem ↓] Go.wp_at_zero Go.wp_at_succ
def jobR (s : ShopR) (j : JobR) : Bool := restB s.rows.length j && machsB s.cals.length j.ms
def headR (s : ShopR) (L : List JobR) : Bool := decide (1 ≤ s.cals.length) && (decide (s.cals.length ≤ 6) && (setupsR s.rows && (decide (1 ≤ s.most) && (decide (s.most ≤ 40) && decide (L.length ≤ 40)))))
def refCheckB (s : ShopR) (L : List JobR) : Bool := headR s L && (!s.cals.any wrongC && L.all (jobR s))
set_option maxRecDepth 100000 in
set_option maxHeartbeats 16000000 in
theorem refCheck52_any (s : ShopR) (A : Option Addr) (c : Nat) (L : List JobR) (w : World) (hs : IsShop w s) (h : IsJobs w A c L) : Gives Tryz.prog 79 #[shopV s, .slice A L.length c] w (.bool (refCheckB s L)) := by
  apply Gives.ret
  have SU := fun W hW => setups_any s.B s.d s.rows W (hs.of (w' := W) hW).rows
  have hcl := hs.cals.len
  have hrl := hs.rows.len
  have hll := h.len
  obtain ⟨sA, sc, cals, sB, sd, R, most⟩ := s
  simp only at hcl hrl SU
  have H := Lib.hid (And.intro hs h)
  have hb : refCheckB ⟨sA, sc, cals, sB, sd, R, most⟩ L = ((decide (1 ≤ cals.length) && (decide (cals.length ≤ 6) && (setupsR R && (decide (1 ≤ most) && (decide (most ≤ 40) && decide (L.length ≤ 40)))))) && (!cals.any wrongC && L.all (jobR ⟨sA, sc, cals, sB, sd, R, most⟩))) := rfl
  clear hs h
  have hcase : (cals.length < 1) ∨ (¬ cals.length < 1 ∧ 6 < cals.length) ∨ (¬ cals.length < 1 ∧ ¬ 6 < cals.length ∧ setupsR R = false) ∨ (¬ cals.length < 1 ∧ ¬ 6 < cals.length ∧ ¬ setupsR R = false ∧ most < 1) ∨ (¬ cals.length < 1 ∧ ¬ 6 < cals.length ∧ ¬ setupsR R = false ∧ ¬ most < 1 ∧ 40 < most) ∨ (¬ cals.length < 1 ∧ ¬ 6 < cals.length ∧ ¬ setupsR R = false ∧ ¬ most < 1 ∧ ¬ 40 < most ∧ 40 < L.length) ∨ (¬ cals.length < 1 ∧ ¬ 6 < cals.length ∧ ¬ setupsR R = false ∧ ¬ most < 1 ∧ ¬ 40 < most ∧ ¬ 40 < L.length) := by
    by_cases e0 : cals.length < 1
    · exact .inl e0
    by_cases e1 : 6 < cals.length
    · exact .inr (.inl ⟨e0, e1⟩)
    by_cases e2 : setupsR R = false
    · exact .inr (.inr (.inl ⟨e0, e1, e2⟩))
    by_cases e3 : most < 1
    · exact .inr (.inr (.inr (.inl ⟨e0, e1, e2, e3⟩)))
    by_cases e4 : 40 < most
    · exact .inr (.inr (.inr (.inr (.inl ⟨e0, e1, e2, e3, e4⟩))))
    by_cases e5 : 40 < L.length
    · exact .inr (.inr (.inr (.inr (.inr (.inl ⟨e0, e1, e2, e3, e4, e5⟩)))))
    exact .inr (.inr (.inr (.inr (.inr (.inr ⟨e0, e1, e2, e3, e4, e5⟩)))))
  rcases hcase with e0 | ⟨e0, e1⟩ | ⟨e0, e1, e2⟩ | ⟨e0, e1, e2, e3⟩ | ⟨e0, e1, e2, e3, e4⟩ | ⟨e0, e1, e2, e3, e4, e5⟩ | ⟨e0, e1, e2, e3, e4, e5⟩
  iterate 6
    · have hf : refCheckB ⟨sA, sc, cals, sB, sd, R, most⟩ L = false := by
        rw [hb]
        first
          | (rw [show decide (1 ≤ cals.length) = false from decide_eq_false (by omega)]; simp)
          | (rw [show decide (cals.length ≤ 6) = false from decide_eq_false (by omega)]; simp)
          | (rw [show decide (1 ≤ most) = false from decide_eq_false (by omega)]; simp)
          | (rw [show decide (most ≤ 40) = false from decide_eq_false (by omega)]; simp)
          | (rw [show decide (L.length ≤ 40) = false from decide_eq_false (by omega)]; simp)
          | (rw [e2]; simp)
      generalize hsv : setupsR R = sv at *
      have HF := Lib.hid hf
      clear hf hb
      (try subst e2)
      (try (have e2' : sv = true := by (cases sv; simp at e2; rfl)); subst e2')
      go_enter Tryz.func79, Tryz.ntmps79
      go_wp2_with fail
      try (refine (SU _ Sx).calls.mono ?_; rintro e _ ⟨rfl, x1, rfl⟩; go_wp2_with fail)
      go_returns
      exact ⟨by rw [HF.out]; rfl, Lx⟩
  have e2' : setupsR R = true := by
    cases hq : setupsR R
    · exact absurd hq e2
    · rfl
  rw [e2', show decide (1 ≤ cals.length) = true from decide_eq_true (by omega), show decide (cals.length ≤ 6) = true from decide_eq_true (by omega), show decide (1 ≤ most) = true from decide_eq_true (by omega), show decide (most ≤ 40) = true from decide_eq_true (by omega), show decide (L.length ≤ 40) = true from decide_eq_true (by omega)] at hb
  simp only [Bool.true_and, Bool.and_true] at hb
  rw [e2'] at SU
  have HB := Lib.hid hb
  clear hb e2 e2'
  go_enter Tryz.func79, Tryz.ntmps79
  go_wp2_with fail
  refine (SU _ Sx).calls.mono ?_
  rintro e _ ⟨rfl, x1, rfl⟩
  clear SU
  go_wp2_with fail
  go_loopg [5] cals.length (fun gas s5 wr => ∃ k : Nat, k ≤ cals.length ∧ cals.length - k ≤ gas ∧ s5 = .int .i64 k ∧ LaterOf x1.wd wr ∧ cals.any wrongC = (cals.drop k).any wrongC)
  case atStart => exact ⟨0, by omega, by omega, rfl, Lx, by rw [List.drop_zero]⟩
  case round =>
    obtain ⟨k, hk, hgas, rfl, ⟨z, rfl⟩, hany⟩ := hrel
    by_cases hlt : k < cals.length
    · have hc := H.out.1.cals.of (w' := z.wd) Sx
      have hx := hc.all _ (List.getElem_mem hlt)
      obtain ⟨g, off, he, hr⟩ := hc.row.at_ (by simpa using (show 0 < cals.length by omega))
      simp only at he
      subst he
      have hO := hr.there
      have k0 := hr.k0 k hlt
      have k1 := hr.k1 k hlt
      have k2 := hr.k2 k hlt
      rw [any_drop wrongC hlt] at hany
      have hwr : wrongC cals[k] = !validB cals[k].P cals[k].S cals[k].D := rfl
      have V := hx.refValid (v := validB cals[k].P cals[k].S cals[k].D) rfl
      generalize validB cals[k].P cals[k].S cals[k].D = v at *
      generalize wrongC cals[k] = b at *
      simp only at k0 k1 k2 V
      generalize cals[k] = x at *
      obtain ⟨xP, xA, xc, xS, xB, xd, xD⟩ := x
      simp only at k0 k1 k2 V
      subst hwr
      clear hc hx hr
      cases v
      all_goals
        have HA := Lib.hid hany
        clear hany
        go_wp2_with fail
        refine (V _ Sx).calls.mono ?_
        rintro e _ ⟨rfl, z2, rfl⟩
        go_wp2_with fail
      · go_returns
        exact ⟨by rw [HB.out, HA.out]; rfl, Lx⟩
      · go_roundg (cals.length - (k + 1))
        case measure => omega
        case rel => exact ⟨k + 1, hlt, Nat.le_refl _, by go_num, Lx, by rw [HA.out]; rfl⟩
    · have hkl : k = cals.length := by omega
      rw [hkl, List.drop_length] at hany
      have hbb := HB.out
      rw [hany] at hbb
      simp only [List.any_nil, Bool.not_false, Bool.true_and] at hbb
      have HB := Lib.hid hbb
      clear hany hkl hbb
      go_wp2_with fail
      go_loopg [6] L.length (fun gas s6 wr => ∃ k : Nat, k ≤ L.length ∧ L.length - k ≤ gas ∧ s6 = .int .i64 k ∧ LaterOf x1.wd wr ∧ L.all (jobR ⟨sA, sc, cals, sB, sd, R, most⟩) = (L.drop k).all (jobR ⟨sA, sc, cals, sB, sd, R, most⟩))
      case atStart => exact ⟨0, by omega, by omega, rfl, Lx, by rw [List.drop_zero]⟩
      case round =>
        obtain ⟨k, hk, hgas, rfl, ⟨z, rfl⟩, hall⟩ := hrel
        by_cases hlt : k < L.length
        · have hc := H.out.2.of (w' := z.wd) Sx
          have hx := hc.all _ (List.getElem_mem hlt)
          obtain ⟨g, off, rfl, hr⟩ := hc.row.at_ (by omega)
          have hO := hr.there
          have j0 := hr.j0 k hlt
          have j1 := hr.j1 k hlt
          have j2 := hr.j2 k hlt
          have j3 := hr.j3 k hlt
          have j4 := hr.j4 k hlt
          have j5 := hr.j5 k hlt
          rw [all_drop _ hlt] at hall
          generalize L[k] = x at *
          obtain ⟨jA, jc, ms, dur, cls, rel, due, ord⟩ := x
          simp only at j0 j1 j2 j3 j4 j5 hx
          have hjr : jobR ⟨sA, sc, cals, sB, sd, R, most⟩ ⟨jA, jc, ms, dur, cls, rel, due, ord⟩ = ((decide (0 < ms.length) && ((decide (1 ≤ dur) && decide (dur ≤ 10000)) && ((decide (0 ≤ cls) && decide (cls ≤ (R.length : Int) - 1)) && ((decide (0 ≤ rel) && decide (rel ≤ 1000000)) && ((decide (0 ≤ due) && decide (due ≤ 1000000)) && (decide (0 ≤ ord) && decide (ord ≤ 1000))))))) && machsB cals.length ms) := rfl
          have hmc := hx.1
          have hml := hx.2
          clear hc hr hx
          have hcase : (ms.length < 1) ∨ (¬ ms.length < 1 ∧ dur < 1) ∨ (¬ ms.length < 1 ∧ ¬ dur < 1 ∧ 10000 < dur) ∨ (¬ ms.length < 1 ∧ ¬ dur < 1 ∧ ¬ 10000 < dur ∧ cls < 0) ∨ (¬ ms.length < 1 ∧ ¬ dur < 1 ∧ ¬ 10000 < dur ∧ ¬ cls < 0 ∧ (R.length : Int) ≤ cls) ∨ (¬ ms.length < 1 ∧ ¬ dur < 1 ∧ ¬ 10000 < dur ∧ ¬ cls < 0 ∧ ¬ (R.length : Int) ≤ cls ∧ rel < 0) ∨ (¬ ms.length < 1 ∧ ¬ dur < 1 ∧ ¬ 10000 < dur ∧ ¬ cls < 0 ∧ ¬ (R.length : Int) ≤ cls ∧ ¬ rel < 0 ∧ 1000000 < rel) ∨ (¬ ms.length < 1 ∧ ¬ dur < 1 ∧ ¬ 10000 < dur ∧ ¬ cls < 0 ∧ ¬ (R.length : Int) ≤ cls ∧ ¬ rel < 0 ∧ ¬ 1000000 < rel ∧ due < 0) ∨ (¬ ms.length < 1 ∧ ¬ dur < 1 ∧ ¬ 10000 < dur ∧ ¬ cls < 0 ∧ ¬ (R.length : Int) ≤ cls ∧ ¬ rel < 0 ∧ ¬ 1000000 < rel ∧ ¬ due < 0 ∧ 1000000 < due) ∨ (¬ ms.length < 1 ∧ ¬ dur < 1 ∧ ¬ 10000 < dur ∧ ¬ cls < 0 ∧ ¬ (R.length : Int) ≤ cls ∧ ¬ rel < 0 ∧ ¬ 1000000 < rel ∧ ¬ due < 0 ∧ ¬ 1000000 < due ∧ ord < 0) ∨ (¬ ms.length < 1 ∧ ¬ dur < 1 ∧ ¬ 10000 < dur ∧ ¬ cls < 0 ∧ ¬ (R.length : Int) ≤ cls ∧ ¬ rel < 0 ∧ ¬ 1000000 < rel ∧ ¬ due < 0 ∧ ¬ 1000000 < due ∧ ¬ ord < 0 ∧ 1000 < ord) ∨ (¬ ms.length < 1 ∧ ¬ dur < 1 ∧ ¬ 10000 < dur ∧ ¬ cls < 0 ∧ ¬ (R.length : Int) ≤ cls ∧ ¬ rel < 0 ∧ ¬ 1000000 < rel ∧ ¬ due < 0 ∧ ¬ 1000000 < due ∧ ¬ ord < 0 ∧ ¬ 1000 < ord) := by
            by_cases e0 : ms.length < 1
            · exact .inl e0
            by_cases e1 : dur < 1
            · exact .inr (.inl ⟨e0, e1⟩)
            by_cases e2 : 10000 < dur
            · exact .inr (.inr (.inl ⟨e0, e1, e2⟩))
            by_cases e3 : cls < 0
            · exact .inr (.inr (.inr (.inl ⟨e0, e1, e2, e3⟩)))
            by_cases e4 : (R.length : Int) ≤ cls
            · exact .inr (.inr (.inr (.inr (.inl ⟨e0, e1, e2, e3, e4⟩))))
            by_cases e5 : rel < 0
            · exact .inr (.inr (.inr (.inr (.inr (.inl ⟨e0, e1, e2, e3, e4, e5⟩)))))
            by_cases e6 : 1000000 < rel
            · exact .inr (.inr (.inr (.inr (.inr (.inr (.inl ⟨e0, e1, e2, e3, e4, e5, e6⟩))))))
            by_cases e7 : due < 0
            · exact .inr (.inr (.inr (.inr (.inr (.inr (.inr (.inl ⟨e0, e1, e2, e3, e4, e5, e6, e7⟩)))))))
            by_cases e8 : 1000000 < due
            · exact .inr (.inr (.inr (.inr (.inr (.inr (.inr (.inr (.inl ⟨e0, e1, e2, e3, e4, e5, e6, e7, e8⟩))))))))
            by_cases e9 : ord < 0
            · exact .inr (.inr (.inr (.inr (.inr (.inr (.inr (.inr (.inr (.inl ⟨e0, e1, e2, e3, e4, e5, e6, e7, e8, e9⟩)))))))))
            by_cases e10 : 1000 < ord
            · exact .inr (.inr (.inr (.inr (.inr (.inr (.inr (.inr (.inr (.inr (.inl ⟨e0, e1, e2, e3, e4, e5, e6, e7, e8, e9, e10⟩))))))))))
            exact .inr (.inr (.inr (.inr (.inr (.inr (.inr (.inr (.inr (.inr (.inr ⟨e0, e1, e2, e3, e4, e5, e6, e7, e8, e9, e10⟩))))))))))
          rcases hcase with e0 | ⟨e0, e1⟩ | ⟨e0, e1, e2⟩ | ⟨e0, e1, e2, e3⟩ | ⟨e0, e1, e2, e3, e4⟩ | ⟨e0, e1, e2, e3, e4, e5⟩ | ⟨e0, e1, e2, e3, e4, e5, e6⟩ | ⟨e0, e1, e2, e3, e4, e5, e6, e7⟩ | ⟨e0, e1, e2, e3, e4, e5, e6, e7, e8⟩ | ⟨e0, e1, e2, e3, e4, e5, e6, e7, e8, e9⟩ | ⟨e0, e1, e2, e3, e4, e5, e6, e7, e8, e9, e10⟩ | ⟨e0, e1, e2, e3, e4, e5, e6, e7, e8, e9, e10⟩
          iterate 11
            · have hf : jobR ⟨sA, sc, cals, sB, sd, R, most⟩ ⟨jA, jc, ms, dur, cls, rel, due, ord⟩ = false := by
                rw [hjr]
                first
                  | (rw [show decide (0 < ms.length) = false from decide_eq_false (by omega)]; simp; done)
                  | (rw [show decide (1 ≤ dur) = false from decide_eq_false (by omega)]; simp; done)
                  | (rw [show decide (dur ≤ 10000) = false from decide_eq_false (by omega)]; simp; done)
                  | (rw [show decide (0 ≤ cls) = false from decide_eq_false (by omega)]; simp; done)
                  | (rw [show decide (cls ≤ (R.length : Int) - 1) = false from decide_eq_false (by omega)]; simp; done)
                  | (rw [show decide (0 ≤ rel) = false from decide_eq_false (by omega)]; simp; done)
                  | (rw [show decide (rel ≤ 1000000) = false from decide_eq_false (by omega)]; simp; done)
                  | (rw [show decide (0 ≤ due) = false from decide_eq_false (by omega)]; simp; done)
                  | (rw [show decide (due ≤ 1000000) = false from decide_eq_false (by omega)]; simp; done)
                  | (rw [show decide (0 ≤ ord) = false from decide_eq_false (by omega)]; simp; done)
                  | (rw [show decide (ord ≤ 1000) = false from decide_eq_false (by omega)]; simp; done)
              rw [hf] at hall
              have HA := Lib.hid (And.intro hall hmc)
              clear hall hf hjr hmc
              go_wp2_with fail
              go_returns
              exact ⟨by rw [HB.out, HA.out.1]; rfl, Lx⟩
          have hjm : jobR ⟨sA, sc, cals, sB, sd, R, most⟩ ⟨jA, jc, ms, dur, cls, rel, due, ord⟩ = machsB cals.length ms := by
            rw [hjr, show decide (0 < ms.length) = true from decide_eq_true (by omega), show decide (1 ≤ dur) = true from decide_eq_true (by omega), show decide (dur ≤ 10000) = true from decide_eq_true (by omega), show decide (0 ≤ cls) = true from decide_eq_true (by omega), show decide (cls ≤ (R.length : Int) - 1) = true from decide_eq_true (by omega), show decide (0 ≤ rel) = true from decide_eq_true (by omega), show decide (rel ≤ 1000000) = true from decide_eq_true (by omega), show decide (0 ≤ due) = true from decide_eq_true (by omega), show decide (due ≤ 1000000) = true from decide_eq_true (by omega), show decide (0 ≤ ord) = true from decide_eq_true (by omega), show decide (ord ≤ 1000) = true from decide_eq_true (by omega)]
            rfl
          rw [hjm] at hall
          have HA := Lib.hid (And.intro hall hmc)
          clear hall hjm hjr hmc
          go_wp2_with fail
          go_loopg [8] ms.length (fun gas s8 wr => ∃ i : Nat, i ≤ ms.length ∧ ms.length - i ≤ gas ∧ s8 = .int .i64 i ∧ LaterOf (z.wd.alloc (.cells #[.slice jA ms.length jc, .int .i64 dur, .int .i64 cls, .int .i64 rel, .int .i64 due, .int .i64 ord] 87)) wr ∧ machsB cals.length ms = ((List.range ms.length).drop i).all (machB cals.length ms))
          case atStart => exact ⟨0, by omega, by omega, rfl, Lx, by rw [List.drop_zero]; rfl⟩
          case round =>
            obtain ⟨i, hi, hgas2, rfl, ⟨z2, rfl⟩, hm⟩ := hrel
            by_cases hlti : i < ms.length
            · rw [all_range _ hlti] at hm
              have hr := HA.out.2.of (w' := z2.wd) Sx
              obtain ⟨gm, om, rfl, hr⟩ := hr.at_ (by omega)
              have hOm := hr.there
              have m0 := hr.n0 i hlti
              have p0 := hr.n0 (i - 1) (by omega)
              rw [← getD_at hlti] at m0
              rw [← getD_at (by omega)] at p0
              have hmb : machB cals.length ms i = ((decide (0 ≤ ms.getD i 0) && decide (ms.getD i 0 ≤ (cals.length : Int) - 1)) && !(decide (0 < i) && decide (ms.getD i 0 ≤ ms.getD (i - 1) 0))) := rfl
              generalize hmv : ms.getD i 0 = mv at *
              generalize hpv : ms.getD (i - 1) 0 = pv at *
              have hcase : (mv < 0 ∧ machB cals.length ms i = false) ∨ (¬ mv < 0 ∧ (cals.length : Int) ≤ mv ∧ machB cals.length ms i = false) ∨ (¬ mv < 0 ∧ ¬ (cals.length : Int) ≤ mv ∧ i = 0 ∧ machB cals.length ms i = true) ∨ (¬ mv < 0 ∧ ¬ (cals.length : Int) ≤ mv ∧ 0 < i ∧ mv ≤ pv ∧ machB cals.length ms i = false) ∨ (¬ mv < 0 ∧ ¬ (cals.length : Int) ≤ mv ∧ 0 < i ∧ ¬ mv ≤ pv ∧ machB cals.length ms i = true) := by
                by_cases a1 : mv < 0
                · exact .inl ⟨a1, by rw [hmb, show decide (0 ≤ mv) = false from by simpa using a1]; rfl⟩
                · have b1 : decide (0 ≤ mv) = true := by simp; omega
                  by_cases a2 : (cals.length : Int) ≤ mv
                  · exact .inr (.inl ⟨a1, a2, by rw [hmb, show decide (mv ≤ (cals.length : Int) - 1) = false from decide_eq_false (by omega), Bool.and_false]; rfl⟩)
                  · have b2 : decide (mv ≤ (cals.length : Int) - 1) = true := by simp; omega
                    rw [b1, b2, Bool.true_and, Bool.true_and] at hmb
                    by_cases a3 : i = 0
                    · exact .inr (.inr (.inl ⟨a1, a2, a3, by rw [hmb, a3]; rfl⟩))
                    · have b3 : decide (0 < i) = true := by simp; omega
                      rw [b3, Bool.true_and] at hmb
                      by_cases a4 : mv ≤ pv
                      · exact .inr (.inr (.inr (.inl ⟨a1, a2, by omega, a4, by rw [hmb, show decide (mv ≤ pv) = true from by simpa using a4]; rfl⟩)))
                      · exact .inr (.inr (.inr (.inr ⟨a1, a2, by omega, a4, by rw [hmb, show decide (mv ≤ pv) = false from by simpa using a4]; rfl⟩)))
              clear hmb hr
              have HM := Lib.hid (And.intro hm (And.intro hmv hpv))
              clear hm hmv hpv
              rcases hcase with ⟨a1, e⟩ | ⟨a1, a2, e⟩ | ⟨a1, a2, rfl, e⟩ | ⟨a1, a2, a3, a4, e⟩ | ⟨a1, a2, a3, a4, e⟩
              · have HE := Lib.hid e
                clear e
                have d1 : decide (mv < 0) = true := by simpa using a1
                go_wp2_with fail
                refine region_later (by kernel_rfl) (by kernel_rfl) ?_
                repeat (go_big_quiet_step (fail))
                refine wpQuiet_nil ?_
                rintro _ ⟨z4, rfl⟩
                go_wp2_with fail
                go_returns
                exact ⟨by rw [HB.out, HA.out.1, HM.out.1, HE.out]; rfl, Lx⟩
              · have HE := Lib.hid e
                clear e
                have d1 : decide (mv < 0) = false := by simpa using a1
                have d2 : decide ((cals.length : Int) ≤ mv) = true := by simpa using a2
                go_wp2_with fail
                refine region_later (by kernel_rfl) (by kernel_rfl) ?_
                repeat (go_big_quiet_step (fail))
                refine wpQuiet_nil ?_
                rintro _ ⟨z4, rfl⟩
                go_wp2_with fail
                go_returns
                exact ⟨by rw [HB.out, HA.out.1, HM.out.1, HE.out]; rfl, Lx⟩
              · have HE := Lib.hid e
                clear e p0
                simp only [Nat.add_zero] at m0
                have d1 : decide (mv < 0) = false := by simpa using a1
                have d2 : decide ((cals.length : Int) ≤ mv) = false := by simpa using a2
                go_wp2_with fail
                refine region_later (by kernel_rfl) (by kernel_rfl) ?_
                repeat (go_big_quiet_step (fail))
                refine wpQuiet_nil ?_
                rintro _ ⟨z4, rfl⟩
                go_wp2_with fail
                go_roundg (ms.length - (0 + 1))
                case measure => omega
                case rel => exact ⟨0 + 1, hlti, Nat.le_refl _, by go_num, Lx, by rw [HM.out.1, HE.out, Bool.true_and]⟩
              · have HE := Lib.hid e
                clear e
                have d1 : decide (mv < 0) = false := by simpa using a1
                have d2 : decide ((cals.length : Int) ≤ mv) = false := by simpa using a2
                have d3 : decide (0 < i) = true := by simpa using a3
                have d4 : decide (mv ≤ pv) = true := by simpa using a4
                have s1 : IntKind.i64.wrap ((i : Int) - 1) = (i : Int) - 1 := IntWalk.i64_in _ (by omega)
                have s2 : 0 ≤ (i : Int) - 1 := by omega
                have s3 : ((i : Int) - 1).toNat = i - 1 := by omega
                have s4 : (i : Int) - 1 < ms.length := by omega
                go_wp2_with fail
                refine region_later (by kernel_rfl) (by kernel_rfl) ?_
                repeat (go_big_quiet_step (fail))
                refine wpQuiet_nil ?_
                rintro _ ⟨z4, rfl⟩
                go_wp2_with fail
                go_returns
                exact ⟨by rw [HB.out, HA.out.1, HM.out.1, HE.out]; rfl, Lx⟩
              · have HE := Lib.hid e
                clear e
                have d1 : decide (mv < 0) = false := by simpa using a1
                have d2 : decide ((cals.length : Int) ≤ mv) = false := by simpa using a2
                have d3 : decide (0 < i) = true := by simpa using a3
                have d4 : decide (mv ≤ pv) = false := by simpa using a4
                have s1 : IntKind.i64.wrap ((i : Int) - 1) = (i : Int) - 1 := IntWalk.i64_in _ (by omega)
                have s2 : 0 ≤ (i : Int) - 1 := by omega
                have s3 : ((i : Int) - 1).toNat = i - 1 := by omega
                have s4 : (i : Int) - 1 < ms.length := by omega
                go_wp2_with fail
                refine region_later (by kernel_rfl) (by kernel_rfl) ?_
                repeat (go_big_quiet_step (fail))
                refine wpQuiet_nil ?_
                rintro _ ⟨z4, rfl⟩
                go_wp2_with fail
                clear s1 s2 s3 s4
                go_roundg (ms.length - (i + 1))
                case measure => omega
                case rel => exact ⟨i + 1, hlti, Nat.le_refl _, by go_num, Lx, by rw [HM.out.1, HE.out, Bool.true_and]⟩
            · have hil : i = ms.length := by omega
              rw [hil, all_range_end] at hm
              have HM := Lib.hid hm
              clear hm hil
              go_wp2_with fail
              go_roundg (L.length - (k + 1))
              case measure => omega
              case rel => exact ⟨k + 1, hlt, Nat.le_refl _, by go_num, Lx, by rw [HA.out.1, HM.out, Bool.true_and]⟩
        · have hkl : k = L.length := by omega
          rw [hkl, List.drop_length, List.all_nil] at hall
          have HA := Lib.hid hall
          clear hall hkl
          go_wp2_with fail
          go_returns
          exact ⟨by rw [HB.out, HA.out]; rfl, Lx⟩
end Go.Proofs.YtpaojgfmffkodaaGreat
