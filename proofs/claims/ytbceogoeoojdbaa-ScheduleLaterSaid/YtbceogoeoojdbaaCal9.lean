/- The calendar's Close. -/
import Derived.Test.YtbceogoeoojdbaaCal8
namespace Go.Proofs.Ytbceogoeoojdbaa
open Go.RowKit Go.Sort
set_option linter.unusedVariables false
attribute [local go_sem ↓] Go.wp_at_zero Go.wp_at_succ

def CloseR (P : Int) (S D : List (Int × Int)) (a b err P' : Int) (S' D' : List (Int × Int)) : Prop :=
  ((validB P S D && checkB a b) = false ∧ err = errI (validB P S D) (checkB a b) ∧ P' = 0 ∧ S' = [] ∧ D' = []) ∨
  (GoodCal P S D ∧ checkB a b = true ∧ ∃ M, ascI 1000000 (-1) M = true ∧ (∀ t, inI M t = (inI D t || decide (a ≤ t ∧ t < b))) ∧
    ((M.length ≤ 20 ∧ err = 0 ∧ P' = P ∧ S' = S ∧ D' = M) ∨ (20 < M.length ∧ err = 9 ∧ P' = 0 ∧ S' = [] ∧ D' = [])))
def CloseOut (w : World) (P : Int) (S D : List (Int × Int)) (a b : Int) (e : Ending) (w' : World) : Prop :=
  SinceOf w w' ∧ ∃ (err P' : Int) (A' : Option Addr) (n' c' : Nat) (B' : Option Addr) (m' d' : Nat) (S' D' : List (Int × Int)), e = .returned (.tuple #[CalV P' A' n' c' B' m' d', .int .i64 err]) ∧ IsCal w' P' A' n' c' B' m' d' S' D' ∧ CloseR P S D a b err P' S' D' ∧ (∀ b, blockOf A' = some b → w.heap.size ≤ b) ∧ (∀ b, blockOf B' = some b → w.heap.size ≤ b)
theorem IsCal.none (w : World) : IsCal w 0 Option.none 0 0 Option.none 0 0 [] [] := ⟨rfl, rfl, IsRow.nil _ _ _, IsRow.nil _ _ _, by decide, by decide⟩

theorem ascI_mem {most : Int} : ∀ {l : List (Int × Int)} {last : Int}, ascI most last l = true → ∀ p ∈ l, last < p.1 ∧ p.1 < p.2 ∧ p.2 ≤ most
  | [], _, _, p, hp => by simp at hp
  | s :: l, last, h, p, hp => by
    rw [ascI_cons] at h
    rcases List.mem_cons.1 hp with rfl | hp
    · exact ⟨h.1, h.2.1, h.2.2.1⟩
    · have := ascI_mem h.2.2.2 p hp; omega
theorem mergeI_length (out : List (Int × Int)) (d : Int × Int) : (mergeI out d).length ≤ out.length + 1 := by
  unfold mergeI; split <;> simp
theorem merged_length : ∀ (l out : List (Int × Int)), (l.foldl mergeI out).length ≤ out.length + l.length
  | [], out => by simp
  | d :: l, out => by have := merged_length l (mergeI out d); have := mergeI_length out d; simp only [List.foldl_cons, List.length_cons]; omega
theorem merged_succ (M : List (Int × Int)) (k : Nat) (hk : k < M.length) : (M.take (k + 1)).foldl mergeI [] = mergeI ((M.take k).foldl mergeI []) M[k] := by
  rw [List.take_succ_eq_append_getElem hk, List.foldl_append]; rfl

section
variable {P : Int} {A B : Option Addr} {n c m d : Nat} {S D : List (Int × Int)} {w : World}
set_option maxRecDepth 100000 in
set_option maxHeartbeats 4000000 in
theorem close_any (a b : Int) (h : IsCal w P A n c B m d S D) : Calls Try.prog 34 #[CalV P A n c B m d, .int .i64 a, .int .i64 b] w (CloseOut w P S D a b) := by
  have K := fun W hW => checked_any (w := W) a b (h.of hW)
  by_cases hg : (validB P S D && checkB a b) = true
  · rw [Bool.and_eq_true] at hg
    obtain ⟨hv, hc⟩ := hg
    rw [hv, hc] at K
    have g := validB_iff.1 hv
    obtain ⟨h0, h1, h2⟩ := checkB_iff.1 hc
    obtain ⟨rfl, rfl, hS, hD, hn, hm⟩ := h
    have hD20 := g.d20
    have HG := Lib.hid (And.intro g (And.intro hc (And.intro hS hD)))
    obtain ⟨i0, hi, hz0, hz1, hz2⟩ := info_parts infoIv
    have HI := Lib.hid (And.intro hi (And.intro hz0 (And.intro hz1 hz2)))
    clear hv hc g hS hD hi hz0 hz1 hz2
    go_enter Try.func34, Try.ntmps34
    go_wp2_with fail
    refine (K _ (by (repeat (first | (with_reducible exact SinceOf.refl _) | (with_reducible assumption) | (with_reducible refine SinceOf.alloc ?_ _) | (with_reducible refine SinceOf.drew ?_) | (with_reducible refine SinceOf.drewN ?_ _) | (with_reducible refine SinceOf.later ?_ _) | (with_reducible refine SinceOf.further ?_ _) | (with_reducible refine SinceOf.setCell ?_ (by first | exact Nat.le_refl _ | (simp; done) | omega | (simp; omega)) _))))).calls.mono ?_
    rintro e _ ⟨rfl, x1, rfl⟩
    simp only [errI, if_true]
    clear K
    go_wp2_with (refine wpList_make_owns _ rfl (.tmp 24) (.tmp 28) 56 rfl encV_len (0, 0) i0 _ 16 Try.underlying56 HI.out.1 HI.out.2.1 HI.out.2.2.1 HI.out.2.2.2 rfl (by omega) D.length (D.length + 1) rfl rfl (by omega) (by omega) (by unfold maxLen; omega) (Nat.le_refl _) ?_; intro cs hown)
    obtain ⟨l0, hl0, hown0⟩ : ∃ l0 : List (Int × Int), l0.length = D.length ∧ OwnIvs x1.wd.heap.size (x1.wd.alloc (.cells cs 55)) (some ⟨x1.wd.heap.size, 0, none⟩) (D.length + 1) l0 := ⟨_, List.length_replicate, hown⟩
    have hrow : IsIvs (x1.wd.alloc (.cells cs 55)) B d D := HG.out.2.2.2.of (((((SinceOf.refl w).alloc _).alloc _).later x1).alloc _)
    have HO := Lib.hid (And.intro hl0 (And.intro hown0 hrow))
    clear hl0 hown0 hown hrow
    have hi2 : (Try.prog.info? 55).map (·.size) = some 2 := by kernel_rfl
    obtain ⟨w2, hrun, hown2, hgr2⟩ := run_copy_owns (P := Try.prog) encV_len (by omega) encV_one 56 56 3 Try.underlying56 hi2 HO.out.2.1 HO.out.2.2 HO.out.1.symm
    rw [HO.out.1] at hrun
    rw [hrun]
    have hs2 : SinceOf x1.wd w2 := ((SinceOf.refl x1.wd).alloc _).grown hgr2 (by intro k hk; simp [blockOf] at hk; omega)
    obtain ⟨y2, rfl⟩ := hs2
    have H2 := Lib.hid hown2
    clear hrun hown2 hgr2 HO hi2
    go_upto_if 36 with fail
    go_cut [9] (fun s9 wx => ∃ (g c' : Nat) (L : List (Int × Int)), s9 = .slice (some ⟨g, 0, none⟩) L.length c' ∧ OwnIvs x1.wd.heap.size wx (some ⟨g, 0, none⟩) c' L ∧ L = (if a < b then D ++ [(a, b)] else D) ∧ SinceOf x1.wd wx)
    case first =>
      by_cases hlt : a < b
      · go_wp2_with (at_builtin; refine wpList_append_row rfl (.tmp 37) (.tmp 41) 56 rfl encV_len (by omega) encV_one i0 _ 16 Try.underlying56 HI.out.1 HI.out.2.1 HI.out.2.2.1 HI.out.2.2.2 rfl (l := D) (A := some ⟨x1.wd.heap.size, 0, none⟩) (c := D.length + 1) (base := x1.wd.heap.size) rfl (H2.out.alloc _) (m := [(a, b)]) rfl (isRow_one _ a b _) (by unfold maxLen; simp; omega) (by simp; omega) (by have := y2.size; simp; omega) ?_; intro A' c' w' hown hgrow hbl)
        go_meet
        obtain ⟨g, rfl, hgb, -⟩ := Owns.at0 hown (by simp)
        refine ⟨g, c', D ++ [(a, b)], by simp, hown, by rw [if_pos hlt], ?_⟩
        exact (SinceOf.alloc ⟨y2, rfl⟩ _).grown hgrow (by intro k hk; simp [blockOf] at hk; omega)
      · go_wp2_with fail
        go_meet
        exact ⟨_, _, D, rfl, H2.out, by rw [if_neg (by omega)], ⟨y2, rfl⟩⟩
    case rest =>
      obtain ⟨g, c', L, rfl, hL, hLd, ⟨y3, rfl⟩⟩ := hcut
      have hLb : ∀ p ∈ L, 0 ≤ p.1 ∧ p.1 < p.2 ∧ p.2 ≤ 1000000 := by
        have hD := ascI_mem HG.out.1.d
        rw [hLd]
        split
        · intro p hp
          rcases List.mem_append.1 hp with hp | hp
          · have := hD p hp; omega
          · obtain rfl : p = (a, b) := by simpa using hp
            exact ⟨h0, by assumption, h2⟩
        · intro p hp; have := hD p hp; omega
      have hLset : ∀ t, inI L t = (inI D t || decide (a ≤ t ∧ t < b)) := by
        intro t
        rw [hLd]
        split
        · rw [inI_snoc]
        · rw [show decide (a ≤ t ∧ t < b) = false from by simp; omega, Bool.or_false]
      have hL21 : L.length ≤ 21 := by
        rw [hLd]; split
        · rw [List.length_append, List.length_singleton]; omega
        · omega
      have hlive := hL.live0 encV_len
      have hsort := sortIvs_any g 0 c' L y3.wd hlive.2 (by omega) (fun p hp => by have := hLb p hp; omega)
      have HL := Lib.hid (And.intro hlive.1 (And.intro hLb hLset))
      clear hL hLd hlive hLb hLset H2
      go_wp2_with fail
      refine hsort.mono ?_
      clear hsort
      rintro e w3 ⟨rfl, M, hperm, hsorted, hM, hgr⟩
      obtain ⟨y4, rfl⟩ : SinceOf x1.wd w3 := SinceOf.grown ⟨y3, rfl⟩ hgr (by intro k hk; injection hk with hk; rw [← hk]; exact HL.out.1)
      have hML := hperm.length_eq
      have hmerge := merged_ok (most := 1000000) (l := M) (out := []) rfl (fun d hd => by have := HL.out.2.1 d (hperm.mem_iff.1 hd); exact ⟨this.1, this⟩) hsorted
      have hset : ∀ t, inI (M.foldl mergeI []) t = (inI D t || decide (a ≤ t ∧ t < b)) := fun t => by rw [hmerge.2, List.nil_append, inI_perm hperm, HL.out.2.2]
      have HM := Lib.hid (And.intro hML (And.intro hM.row (And.intro hmerge.1 hset)))
      clear hperm hsorted hM hgr hML hmerge hset HL
      go_wp2_with fail
      go_loopg [10, 47] L.length (fun gas s10 s47 wr => ∃ (k : Nat) (A2 : Option Addr) (c2 : Nat), k ≤ L.length ∧ L.length - k ≤ gas ∧ s10 = .slice A2 ((M.take k).foldl mergeI []).length c2 ∧ s47 = .int .i64 k ∧ OwnIvs y4.wd.heap.size wr A2 c2 ((M.take k).foldl mergeI []) ∧ SinceOf y4.wd wr)
      case atStart => exact ⟨0, none, 0, by omega, by omega, rfl, rfl, Owns.nil _ _ _ _ _, SinceOf.refl _⟩
      case round =>
        obtain ⟨k, A2, c2, hk, hgas, rfl, rfl, hown, ⟨z, rfl⟩⟩ := hrel
        have hol : ((M.take k).foldl mergeI []).length ≤ 21 := by
          have := merged_length (M.take k) []
          rw [List.length_take] at this
          simp only [List.length_nil] at this
          omega
        by_cases hlt : k < L.length
        · have hkM : k < M.length := by rw [HM.out.1]; exact hlt
          have hs := merged_succ M k hkM
          have hr := HM.out.2.1.of ⟨z, rfl⟩
          have hO := hr.there
          have k0 := hr.v0 k hkM
          have k1 := hr.v1 k hkM
          obtain ⟨⟨d0, d1⟩, hd⟩ : ∃ q, q = M[k] := ⟨_, rfl⟩
          rw [← hd] at k0 k1 hs
          generalize (M.take k).foldl mergeI [] = out at *
          have HS := Lib.hid hs
          clear hs hr hd hkM
          simp only [Nat.zero_add] at k0 k1
          have hzs := z.size
          by_cases hempty : out.length = 0
          · obtain rfl : out = [] := List.eq_nil_of_length_eq_zero hempty
            have hm : (M.take (k + 1)).foldl mergeI [] = [(d0, d1)] := by rw [HS.out]; rfl
            have HMm := Lib.hid (And.intro hm hown)
            clear hm hown hempty
            go_wp2_with fail
            refine region_later (by kernel_rfl) (by kernel_rfl) ?_
            repeat (go_big_quiet_step (fail))
            refine wpQuiet_nil ?_
            rintro _ ⟨z2, rfl⟩
            go_wp2_with (at_builtin; refine wpList_append_row rfl (.tmp 80) (.tmp 82) 56 rfl encV_len (by omega) encV_one i0 _ 16 Try.underlying56 HI.out.1 HI.out.2.1 HI.out.2.2.1 HI.out.2.2.2 rfl (l := []) (A := A2) (c := c2) (base := y4.wd.heap.size) rfl (((HMm.out.2.alloc _).of (LaterOf.since ⟨z2, rfl⟩)).alloc _) (m := [(d0, d1)]) rfl (isRow_one _ d0 d1 _) (by unfold maxLen; simp) (by simp) (by have := z2.size; simp at this ⊢; omega) ?_; intro A' c3 w' hown hgrow hbl)
            go_roundg (L.length - (k + 1))
            case measure => omega
            case rel =>
              refine ⟨k + 1, A', c3, hlt, Nat.le_refl _, ?_, by go_num, ?_, ?_⟩
              · rw [HMm.out.1]; rfl
              · rw [HMm.out.1]; exact hown
              · refine SinceOf.grown (SinceOf.alloc (SinceOf.later (SinceOf.alloc ⟨z, rfl⟩ _) z2) _) hgrow (fun b hb => (HMm.out.2.below b hb).1)
          · have hn0 : 0 < out.length := by omega
            obtain ⟨g2, rfl, hg2b, hg2⟩ := hown.at0 hn0
            have hlv := (hown.live0 encV_len).2
            have hO2 := hlv.row.there
            have m1 := hlv.row.v1 (out.length - 1) (by omega)
            have f1 := hlv.free ((out.length - 1) * 2 + 1) (by omega)
            obtain ⟨⟨e0, e1⟩, he⟩ : ∃ q, q = out[out.length - 1] := ⟨_, rfl⟩
            rw [← he] at m1
            simp only [Nat.zero_add] at m1 f1
            have hgD : out.getD (out.length - 1) (0, 0) = (e0, e1) := by rw [List.getD_eq_getElem?_getD, List.getElem?_eq_getElem (by omega), he]; rfl
            have HE := Lib.hid (And.intro he hgD)
            clear he hgD hlv
            by_cases hle : d0 ≤ e1
            · have hm : (M.take (k + 1)).foldl mergeI [] = out.set (out.length - 1) (e0, max e1 d1) := by
                rw [HS.out]; unfold mergeI; rw [HE.out.2, if_pos ⟨hn0, hle⟩]
              have HMm := Lib.hid (And.intro hm hown)
              clear hm hown hempty
              go_wp2_with fail
              refine region_later (by kernel_rfl) (by kernel_rfl) ?_
              repeat (go_big_quiet_step (fail))
              refine wpQuiet_nil ?_
              rintro _ ⟨z2, rfl⟩
              go_wp2_with fail
              have q0 : z2.wd.cell? ⟨g2, (out.length - 1) * 2 + 1, none⟩ = some (.int .i64 e1) := by simp [go_sem, m1]
              have q1 : z2.wd.frozen? ⟨g2, (out.length - 1) * 2 + 1, none⟩ = false := by simp [go_sem, f1]
              have q2 : z2.wd.cell? ⟨z.wd.heap.size, 1, none⟩ = some (.int .i64 d1) := by simp [go_sem]
              have hown2 : OwnIvs y4.wd.heap.size z2.wd (some ⟨g2, 0, none⟩) c2 out := (HMm.out.2.alloc _).of (LaterOf.since ⟨z2, rfl⟩)
              have hsi2 : SinceOf y4.wd z2.wd := SinceOf.later (SinceOf.alloc ⟨z, rfl⟩ _) z2
              have H3 := Lib.hid (And.intro hown2 hsi2)
              clear hown2 hsi2 m1 f1 k0 k1
              go_big_region
              go_wp2_with fail
              go_roundg (L.length - (k + 1))
              case measure => omega
              case rel =>
                obtain ⟨o1, o2⟩ := Owns.set1 H3.out.1 (out.length - 1) (by omega) (max e1 d1)
                rw [← HE.out.1] at o1
                refine ⟨k + 1, some ⟨g2, 0, none⟩, c2, hlt, Nat.le_refl _, ?_, by go_num, ?_, ?_⟩
                · rw [HMm.out.1, List.length_set]
                · rw [HMm.out.1]; rw [imax_eq]; exact Owns.of o1 ((SinceOf.refl _).drew)
                · rw [imax_eq]; exact (SinceOf.grown H3.out.2 o2 (fun b hb => by injection hb with hb; omega)).drew
            · have hm : (M.take (k + 1)).foldl mergeI [] = out ++ [(d0, d1)] := by
                rw [HS.out]; unfold mergeI; rw [HE.out.2, if_neg (fun h => hle h.2)]
              have HMm := Lib.hid (And.intro hm hown)
              clear hm hown hempty
              have hle2 : decide (d0 ≤ e1) = false := decide_eq_false hle
              clear hle
              go_wp2_with fail
              refine region_later (by kernel_rfl) (by kernel_rfl) ?_
              repeat (go_big_quiet_step (fail))
              refine wpQuiet_nil ?_
              rintro _ ⟨z2, rfl⟩
              go_wp2_with (at_builtin; refine wpList_append_row rfl (.tmp 80) (.tmp 82) 56 rfl encV_len (by omega) encV_one i0 _ 16 Try.underlying56 HI.out.1 HI.out.2.1 HI.out.2.2.1 HI.out.2.2.2 rfl (l := out) (A := some ⟨g2, 0, none⟩) (c := c2) (base := y4.wd.heap.size) rfl (((HMm.out.2.alloc _).of (LaterOf.since ⟨z2, rfl⟩)).alloc _) (m := [(d0, d1)]) rfl (isRow_one _ d0 d1 _) (by unfold maxLen; simp; omega) (by simp; omega) (by have := z2.size; simp at this ⊢; omega) ?_; intro A' c3 w' hown hgrow hbl)
              go_roundg (L.length - (k + 1))
              case measure => omega
              case rel =>
                refine ⟨k + 1, A', c3, hlt, Nat.le_refl _, ?_, by go_num, ?_, ?_⟩
                · rw [HMm.out.1, List.length_append]; rfl
                · rw [HMm.out.1]; exact hown
                · refine SinceOf.grown (SinceOf.alloc (SinceOf.later (SinceOf.alloc ⟨z, rfl⟩ _) z2) _) hgrow (fun b hb => (HMm.out.2.below b hb).1)
        · have hkl : k = L.length := by omega
          have hall : M.take k = M := by rw [hkl, ← HM.out.1, List.take_length]
          rw [hall] at hown hol
          rw [hall]
          obtain ⟨hMl, -, hMa, hMs⟩ := HM.out
          generalize M.foldl mergeI [] = R at *
          have HR := Lib.hid (And.intro hown (And.intro hMa hMs))
          clear hown hall hkl hMl hMa hMs HM
          by_cases hR : R.length ≤ 20
          · have HR2 := Lib.hid hR
            go_wp2_with fail
            go_region_held3 (fun w' => w'.cell? ⟨w.heap.size, 0, none⟩ = some (.int .i64 P) ∧ w'.cell? ⟨w.heap.size, 1, none⟩ = some (.slice A S.length c)) ((simp [go_sem, *]))
              (first | (go_at_call 77; refine (cloneIvs_any A c S _ (HG.out.2.2.1.of (by (repeat (first | (with_reducible exact SinceOf.refl _) | (with_reducible assumption) | (with_reducible refine SinceOf.alloc ?_ _) | (with_reducible refine SinceOf.drew ?_) | (with_reducible refine SinceOf.drewN ?_ _) | (with_reducible refine SinceOf.later ?_ _) | (with_reducible refine SinceOf.further ?_ _) | (with_reducible refine SinceOf.setCell ?_ (by first | exact Nat.le_refl _ | (simp; done) | omega | (simp; omega)) _))))) (by have := HG.out.1.s20; omega)).mono ?_; rintro e _ ⟨A1, c1, rfl, ho, ⟨y5, rfl⟩⟩))
            all_goals
              go_wp2_with fail
              go_returns
              have e1 := x1.size
              have e2 := y4.size
              have e3 := z.size
              simp at e1
              have b1 : ∀ b, blockOf A1 = some b → b ≠ w.heap.size + 1 := fun b hb => by have := (ho.below b hb).1; simp at this; omega
              have b2 : ∀ b, blockOf A2 = some b → b ≠ w.heap.size + 1 := fun b hb => by have := (HR.out.1.below b hb).1; omega
              have r1 := ho.isRow encV_len
              have r2 := ((HR.out.1.isRow encV_len).of ((SinceOf.refl _).drew)).since y5
              refine ⟨by (repeat (first | (with_reducible exact SinceOf.refl _) | (with_reducible assumption) | (with_reducible refine SinceOf.alloc ?_ _) | (with_reducible refine SinceOf.drew ?_) | (with_reducible refine SinceOf.drewN ?_ _) | (with_reducible refine SinceOf.later ?_ _) | (with_reducible refine SinceOf.further ?_ _) | (with_reducible refine SinceOf.setCell ?_ (by first | exact Nat.le_refl _ | (simp; done) | omega | (simp; omega)) _))), 0, P, A1, S.length, c1, A2, R.length, c2, S, R, rfl, ⟨rfl, rfl, ((r1.setOther _ _ _ b1).setOther _ _ _ b1).setOther _ _ _ b1, ((r2.setOther _ _ _ b2).setOther _ _ _ b2).setOther _ _ _ b2, hn, by omega⟩, .inr ⟨HG.out.1, HG.out.2.1, R, HR.out.2.1, HR.out.2.2, .inl ⟨HR2.out, rfl, rfl, rfl, rfl⟩⟩, (fun b hb => by have := (ho.below b hb).1; simp at this; omega), (fun b hb => by have := (HR.out.1.below b hb).1; omega)⟩
          · have hR2 : 20 < R.length := by omega
            have HR2 := Lib.hid hR2
            clear hR2
            go_wp2_with fail
            go_returns
            refine ⟨by (repeat (first | (with_reducible exact SinceOf.refl _) | (with_reducible assumption) | (with_reducible refine SinceOf.alloc ?_ _) | (with_reducible refine SinceOf.drew ?_) | (with_reducible refine SinceOf.drewN ?_ _) | (with_reducible refine SinceOf.later ?_ _) | (with_reducible refine SinceOf.further ?_ _) | (with_reducible refine SinceOf.setCell ?_ (by first | exact Nat.le_refl _ | (simp; done) | omega | (simp; omega)) _))), 9, 0, none, 0, 0, none, 0, 0, [], [], rfl, IsCal.none _, .inr ⟨HG.out.1, HG.out.2.1, R, HR.out.2.1, HR.out.2.2, .inr ⟨HR2.out, rfl, rfl, rfl, rfl⟩⟩, (by intro b hb; cases hb), (by intro b hb; cases hb)⟩
  · have hd : errI (validB P S D) (checkB a b) = 1 ∨ errI (validB P S D) (checkB a b) = 2 := by
      cases hv : validB P S D <;> cases hc : checkB a b <;> simp [hv, hc, errI] at hg ⊢
    have hg' : (validB P S D && checkB a b) = false := by simpa using hg
    have HF : ∀ w', SinceOf w w' → CloseOut w P S D a b (.returned (.tuple #[.agg #[.int .i64 0, .slice none 0 0, .slice none 0 0], .int .i64 (errI (validB P S D) (checkB a b))])) w' :=
      fun w' hw => ⟨hw, _, 0, none, 0, 0, none, 0, 0, [], [], rfl, IsCal.none _, .inl ⟨hg', rfl, rfl, rfl, rfl⟩, (by intro b hb; cases hb), (by intro b hb; cases hb)⟩
    have HF := Lib.hid HF
    clear h hg hg'
    generalize errI (validB P S D) (checkB a b) = q at *
    rcases hd with rfl | rfl
    all_goals
      go_enter Try.func34, Try.ntmps34
      go_wp2_with fail
      refine (K _ (by (repeat (first | (with_reducible exact SinceOf.refl _) | (with_reducible assumption) | (with_reducible refine SinceOf.alloc ?_ _) | (with_reducible refine SinceOf.drew ?_) | (with_reducible refine SinceOf.drewN ?_ _) | (with_reducible refine SinceOf.later ?_ _) | (with_reducible refine SinceOf.further ?_ _) | (with_reducible refine SinceOf.setCell ?_ (by first | exact Nat.le_refl _ | (simp; done) | omega | (simp; omega)) _))))).calls.mono ?_
      rintro e _ ⟨rfl, x1, rfl⟩
      go_wp2_with fail
      go_returns
      exact HF.out _ (by (repeat (first | (with_reducible exact SinceOf.refl _) | (with_reducible assumption) | (with_reducible refine SinceOf.alloc ?_ _) | (with_reducible refine SinceOf.drew ?_) | (with_reducible refine SinceOf.drewN ?_ _) | (with_reducible refine SinceOf.later ?_ _) | (with_reducible refine SinceOf.further ?_ _) | (with_reducible refine SinceOf.setCell ?_ (by first | exact Nat.le_refl _ | (simp; done) | omega | (simp; omega)) _))))
end
end Go.Proofs.Ytbceogoeoojdbaa
