/- Layer 54: the reference's Apply. -/
import Derived.Test.YtpaojgfmffkodaaGreatARep39
import Derived.Deep.CutRange
namespace Go.Proofs.YtpaojgfmffkodaaGreat
set_option linter.unusedVariables false
set_option linter.unusedSimpArgs false
open Go.RowKit Go.Sort
attribute [local go_sem ↓] Go.wp_at_zero Go.wp_at_succ
set_option maxRecDepth 100000 in
set_option maxHeartbeats 16000000 in
theorem refApply54_any (s : ShopR) (A : Option Addr) (c : Nat) (L : List JobR) (B : Option Addr) (d : Nat) (plan : List SlotR) (now : Int) (E : Option Addr) (ec : Nat) (evs : List EvR) (w : World) (hs : IsShop w s) (hL : IsJobs w A c L) (hl : IsSlots w B d plan) (he : IsEvs w E ec evs) (hll : plan.length ≤ 100000) (hcap : plan.length ≤ d) (hel : evs.length < 4611686018427387904) :
 Calls Tryz.prog 16 #[shopV s, .slice A L.length c, .slice B plan.length d, .int .i64 now, .slice E evs.length ec] w fun e w' => ∃ x : StR, e = .returned (.tuple #[stateV x, .int .i64 (applyV s L plan now evs).1]) ∧ erSt x = (applyV s L plan now evs).2 ∧ IsState w' x ∧ SinceOf w w' := by
 obtain ⟨res, hres⟩ : ∃ r, r = applyV s L plan now evs := ⟨_, rfl⟩
 rw [← hres]
 unfold applyV at hres
 have VA := fun W (hW : SinceOf w W) => refValid52_any s A c L B d plan W (hs.of hW) (hL.of hW) (hl.of hW) (by omega) hcap
 have hz0 := zeroSt_is w
 have hjl := hL.len
 by_cases e1 : (validT s L plan).2 = 0
 · rw [if_pos e1] at hres
   have hck := (validT_zero.1 e1).1
   have HG := Lib.hid (validT_zero.1 e1).2
   rw [e1] at VA
   generalize (validT s L plan).1 = vv at VA
   have HLN := check_lens hck
   have HW := Lib.hid (And.intro hs (And.intro hL (And.intro hl (And.intro he (And.intro hck HLN)))))
   have hL40 := HLN.jobs
   clear hs hL hl he hck HLN e1
   obtain ⟨sA, sc, cals, sB, sd, R, most⟩ := s
   by_cases e2 : now < 0 ∨ 1000000 < now
   · rw [if_pos e2] at hres
     subst hres
     have HZ := Lib.hid hz0
     clear hz0
     rcases (show now < 0 ∨ (¬ now < 0 ∧ 1000000 < now) by omega) with e3 | ⟨e3, e4⟩
     all_goals
      clear e2
      go_enter Tryz.func16, Tryz.ntmps16
      go_wp2_with fail
      refine (VA _ Sx).calls.mono ?_
      rintro e _ ⟨rfl, z1, rfl⟩
      go_wp2_with fail
      go_returns
      exact ⟨zeroSt, rfl, rfl, HZ.out.of Sx, Sx⟩
   · rw [if_neg e2] at hres
     have e3 : ¬ now < 0 := by omega
     have e4 : ¬ 1000000 < now := by omega
     by_cases e5 : 20 < evs.length
     · rw [if_pos e5] at hres
       subst hres
       have HZ := Lib.hid hz0
       clear hz0
       have e6 : 20 < (evs.length : Int) := by omega
       clear e2 e5
       go_enter Tryz.func16, Tryz.ntmps16
       go_wp2_with fail
       refine (VA _ Sx).calls.mono ?_
       rintro e _ ⟨rfl, z1, rfl⟩
       go_wp2_with fail
       go_returns
       exact ⟨zeroSt, rfl, rfl, HZ.out.of Sx, Sx⟩
     · rw [if_neg e5] at hres
       have HR := Lib.hid hres
       have HZ := Lib.hid hz0
       have e6 : ¬ 20 < (evs.length : Int) := by omega
       obtain ⟨b0i, bi, bz0, bz1, bz2⟩ := info_parts infoBool
       have BI := Lib.hid (And.intro bi (And.intro bz0 (And.intro bz1 bz2)))
       obtain ⟨i0, ii, iz0, iz1, iz2⟩ := info_parts infoRJob
       have HI := Lib.hid (And.intro ii (And.intro iz0 (And.intro iz1 iz2)))
       have HL := Lib.hid HW.out.2.1
       obtain ⟨s0i, si, sz0, sz1, sz2⟩ := info_parts infoRSlot
       have SI := Lib.hid (And.intro si (And.intro sz0 (And.intro sz1 sz2)))
       clear si sz0 sz1 sz2
       clear e2 e5 hres hz0 bi bz0 bz1 bz2 ii iz0 iz1 iz2
       go_enter Tryz.func16, Tryz.ntmps16
       go_wp2_with fail
       refine (VA _ Sx).calls.mono ?_
       rintro e _ ⟨rfl, z1, rfl⟩
       go_upto_region 8 with fail
       have hz1 := z1.size
       (try simp at hz1)
       go_cut [14] from 45 to 52 (fun s14 wx => ∃ (o : Nat) (A1 : Option Addr) (c1 nd : Nat) (V : World), s14 = .pointer (some ⟨o, 0, none⟩) ∧ V.heap[o]? = some (Obj.cells #[.slice none 0 0, .slice none 0 0, .int .i64 0, .slice none 0 0, .slice none 0 0, .slice none 0 0, .slice none 0 0] 52 (0, 0)) ∧ Owns encJ 6 (w.heap.size + 2) 87 V A1 c1 L ∧ Owns encB 1 (w.heap.size + 2) 4 V (some ⟨nd, 0, none⟩) L.length (List.replicate L.length false) ∧ w.heap.size + 2 ≤ o ∧ SinceOf ((w.alloc (.cells #[.slice sA cals.length sc, .slice sB R.length sd, .int .i64 most] 25)).alloc (.cells #[.slice none 0 0, .slice none 0 0, .int .i64 0, .slice none 0 0, .slice none 0 0, .slice none 0 0, .slice none 0 0] 52)) V ∧ wx = (((((((V.setCell ⟨o, 0, none⟩ (.slice sA cals.length sc)).setCell ⟨o, 1, none⟩ (.slice sB R.length sd)).setCell ⟨o, 2, none⟩ (.int .i64 most)).setCell ⟨o, 3, none⟩ (.slice A1 L.length c1)).setCell ⟨o, 4, none⟩ (.slice none 0 0)).setCell ⟨o, 5, none⟩ (.slice none 0 0)).setCell ⟨o, 6, none⟩ (.slice (some ⟨nd, 0, none⟩) L.length L.length)))
       case first =>
        refine regionL [9] (S := (fun w' => w'.cell? ⟨w.heap.size, 0, none⟩ = some (.slice sA cals.length sc) ∧ w'.cell? ⟨w.heap.size, 1, none⟩ = some (.slice sB R.length sd) ∧ w'.cell? ⟨w.heap.size, 2, none⟩ = some (.int .i64 most))) (by kernel_rfl) ?_ (fun hHeld0 => ?_)
        · simp [go_sem, *]
        refine tK (i := 0) (d := some 45) (v := ?_) rfl rfl (fun _ _ _ h => h) (Or.inl ⟨by rfl, ?_⟩) (by assumption) ?_
        rotate_left 1
        · (intro w hSw; (try dsimp only at hSw); go_simp) <;> (with_reducible rfl)
        (try simp only [Act.put, List.setIfInBounds_toArray, List.set_cons_zero, List.set_cons_succ])
        refine tK (i := 2) (d := some 47) (v := ?_) rfl rfl (fun _ _ _ h => h) (Or.inl ⟨by rfl, ?_⟩) (by assumption) ?_
        rotate_left 1
        · (intro w hSw; (try dsimp only at hSw); go_simp) <;> (with_reducible rfl)
        (try simp only [Act.put, List.setIfInBounds_toArray, List.set_cons_zero, List.set_cons_succ])
        refine tK (i := 4) (d := some 49) (v := ?_) rfl rfl (fun _ _ _ h => h) (Or.inl ⟨by rfl, ?_⟩) (by assumption) ?_
        rotate_left 1
        · (intro w hSw; (try dsimp only at hSw); go_simp) <;> (with_reducible rfl)
        (try simp only [Act.put, List.setIfInBounds_toArray, List.set_cons_zero, List.set_cons_succ])
        refine tK (i := 5) (d := some 50) (v := ?_) rfl rfl (fun _ _ _ h => h) (Or.inl ⟨by rfl, ?_⟩) (by assumption) ?_
        rotate_left 1
        · (intro w hSw; (try dsimp only at hSw); go_simp) <;> (with_reducible rfl)
        (try simp only [Act.put, List.setIfInBounds_toArray, List.set_cons_zero, List.set_cons_succ])
        have hB : SinceOf ((w.alloc (.cells #[.slice sA cals.length sc, .slice sB R.length sd, .int .i64 most] 25)).alloc (.cells #[.slice none 0 0, .slice none 0 0, .int .i64 0, .slice none 0 0, .slice none 0 0, .slice none 0 0, .slice none 0 0] 52)) z1.wd.drew := Sx
        generalize z1.wd.drew = V0 at *
        have hzz := hB.size
        (try simp only [World.size_alloc] at hzz)
        refine stepL3 (i := 1) (j := 6) (k := 8) (by kernel_rfl) rfl rfl rfl (fun K' hK => ?_) (fun K' hK => ?_) (fun K' hK => ?_)
        · skip
          have hOw : Nonempty (Old V0 w.heap.size) := ⟨⟨by omega⟩⟩
          go_simp
          refine hK.out _ _ ?_ (fun hHeld1 => ?_)
          · simp [go_sem, hHeld0]
          clear hK K' hHeld0
          obtain ⟨n0, hX⟩ : ∃ n, n = V0.heap.size := ⟨_, rfl⟩
          have hsN : SinceOf V0 (V0.alloc (.cells #[] 87)) := Sx
          have hEn : Owns encJ 6 (w.heap.size + 2) 87 (V0.alloc (.cells #[] 87)) (some ⟨n0, 0, none⟩) 0 [] := by rw [hX]; exact owns_emptyAt _ _ _ rfl (by omega)
          (try rw [← hX])
          have hB := hB.trans hsN
          have hE := hEn
          clear hEn
          have hn0 : w.heap.size + 2 ≤ n0 := by omega
          clear hsN hX
          generalize V0.alloc (.cells #[] 87) = V1 at *
          have hzz := hB.size
          (try simp only [World.size_alloc] at hzz)
          refine stepL3 (i := 3) (j := 6) (k := 8) (by kernel_rfl) rfl rfl rfl (fun K' hK => ?_) (fun K' hK => ?_) (fun K' hK => ?_)
          · skip
            refine step_append_row (by rfl) (.tmp 46) (.tmp 47) 26 (by rfl) encJ_len (by omega) encJ_one i0 _ 64 Tryz.underlying26 HI.out.1 HI.out.2.1 HI.out.2.2.1 HI.out.2.2.2 rfl (l := []) (A := some ⟨n0, 0, none⟩) (c := 0) (base := w.heap.size + 2) (by rfl) hE (m := L) (B := A) (d := c) (by rfl) (HL.out.row.of ((show SinceOf w ((w.alloc (.cells #[.slice sA cals.length sc, .slice sB R.length sd, .int .i64 most] 25)).alloc (.cells #[.slice none 0 0, .slice none 0 0, .int .i64 0, .slice none 0 0, .slice none 0 0, .slice none 0 0, .slice none 0 0] 52)) from Sx).trans hB)) (by unfold maxLen; first | omega | (simp; omega)) (by first | omega | (simp; omega)) (by omega) ?_
            intro A1 c1 V2 hJn hgr hbl
            rw [List.nil_append] at hJn
            rw [List.length_nil, Nat.zero_add]
            have SB := SameBut.grown (es := [87]) hgr (fun g5 hg5 => by obtain ⟨cur, hc⟩ := hE.typed g5 hg5; exact ⟨cur, _, _, List.mem_singleton.2 rfl, hc⟩)
            have hB := SinceOf.grown hB hgr (by intro q hq; simp [blockOf] at hq; simp; omega)
            have hzN := hgr.size
            refine hK.out _ _ ⟨hgr.cell hHeld1.1 (by simp [blockOf]; omega), hgr.cell hHeld1.2.1 (by simp [blockOf]; omega), hgr.cell hHeld1.2.2 (by simp [blockOf]; omega)⟩ (fun hHeld2 => ?_)
            clear hK K' hHeld1
            have hJ := hJn
            clear hJn hE hgr SB hbl
            have hzz := hB.size
            (try simp only [World.size_alloc] at hzz)
            refine stepL2 (i := 6) (j := 8) (by kernel_rfl) rfl rfl (fun K' hK => ?_) (fun K' hK => ?_)
            · skip
              refine step_make_owns (by rfl) (.tmp 50) (.tmp 50) 40 (by rfl) encB_len false b0i _ 1 Tryz.underlying40 BI.out.1 BI.out.2.1 BI.out.2.2.1 BI.out.2.2.2 rfl (by omega) (base := w.heap.size + 2) L.length L.length (by rfl) (by rfl) (Nat.le_refl _) (by omega) (by unfold maxLen; omega) (by omega) ?_
              intro dcs hDn
              have hOw : Nonempty (Old V2 w.heap.size) := ⟨⟨by omega⟩⟩
              refine hK.out _ _ ?_ (fun hHeld3 => ?_)
              · simp [go_sem, hHeld2]
              clear hK K' hHeld2
              obtain ⟨nd, hX⟩ : ∃ n, n = V2.heap.size := ⟨_, rfl⟩
              have hsN : SinceOf V2 (V2.alloc (.cells dcs 4)) := Sx
              rw [← hX] at hDn
              (try rw [← hX])
              have hJ := hJ.of hsN
              have hB := hB.trans hsN
              have hD := hDn
              clear hDn hsN hX
              generalize V2.alloc (.cells dcs 4) = V3 at *
              have hzz := hB.size
              (try simp only [World.size_alloc] at hzz)
              refine tK (i := 7) (d := some 52) (v := ?_) rfl rfl (fun _ _ _ h => h) (Or.inl ⟨by rfl, ?_⟩) (by assumption) ?_
              rotate_left 1
              · (intro w hSw; (try dsimp only at hSw); go_simp) <;> (with_reducible rfl)
              (try simp only [Act.put, List.setIfInBounds_toArray, List.set_cons_zero, List.set_cons_succ])
              refine stepL (i := 8) (by kernel_rfl) rfl (fun K' hK => ?_)
              have hOw : Nonempty (Old V3 w.heap.size) := ⟨⟨by omega⟩⟩
              go_simp
              refine hK.out _ _ ?_ (fun hHeld4 => ?_)
              · simp [go_sem, hHeld3]
              clear hK K' hHeld3
              obtain ⟨o, hX⟩ : ∃ n, n = V3.heap.size := ⟨_, rfl⟩
              have hsN : SinceOf V3 (V3.alloc (.cells #[.slice none 0 0, .slice none 0 0, .int .i64 0, .slice none 0 0, .slice none 0 0, .slice none 0 0, .slice none 0 0] 52)) := Sx
              have hOn : (V3.alloc (.cells #[.slice none 0 0, .slice none 0 0, .int .i64 0, .slice none 0 0, .slice none 0 0, .slice none 0 0, .slice none 0 0] 52)).heap[o]? = some (Obj.cells #[.slice none 0 0, .slice none 0 0, .int .i64 0, .slice none 0 0, .slice none 0 0, .slice none 0 0, .slice none 0 0] 52 (0, 0)) := by rw [hX]; exact alloc_at _ _ _ rfl
              (try rw [← hX])
              have hJ := hJ.of hsN
              have hD := hD.of hsN
              have hB := hB.trans hsN
              have hO := hOn
              clear hOn
              have ho0 : w.heap.size + 2 ≤ o := by omega
              clear hsN hX
              generalize V3.alloc (.cells #[.slice none 0 0, .slice none 0 0, .int .i64 0, .slice none 0 0, .slice none 0 0, .slice none 0 0, .slice none 0 0] 52) = V4 at *
              have hzz := hB.size
              (try simp only [World.size_alloc] at hzz)
              have w0 := cell_of (i := 0) hO rfl
              have w1 := cell_of (i := 1) hO rfl
              have w2 := cell_of (i := 2) hO rfl
              have w3 := cell_of (i := 3) hO rfl
              have w4 := cell_of (i := 4) hO rfl
              have w5 := cell_of (i := 5) hO rfl
              have w6 := cell_of (i := 6) hO rfl
              have f0 := free_of hO 0
              have f1 := free_of hO 1
              have f2 := free_of hO 2
              have f3 := free_of hO 3
              have f4 := free_of hO 4
              have f5 := free_of hO 5
              have f6 := free_of hO 6
              have hOo : Nonempty (Old V4 o) := ⟨⟨heap_lt hO⟩⟩
              refine lastL (i := 9) (by kernel_rfl) (by rfl) rfl (fun K' hK => ?_)
              go_simp
              refine hK.out _ _ ?_
              clear hK K'
              refine doneL (by kernel_rfl) ?_ _
              go_wp2_with fail
              go_meet
              exact ⟨o, A1, c1, nd, V4, rfl, hO, hJ, hD, ho0, hB, rfl⟩
            · skip
              have hOw : Nonempty (Old V2 w.heap.size) := ⟨⟨by omega⟩⟩
              go_simp
              refine hK.out _ _ ?_ (fun hHeld3 => ?_)
              · simp [go_sem, hHeld2]
              clear hK K' hHeld2
              obtain ⟨o, hX⟩ : ∃ n, n = V2.heap.size := ⟨_, rfl⟩
              have hsN : SinceOf V2 (V2.alloc (.cells #[.slice none 0 0, .slice none 0 0, .int .i64 0, .slice none 0 0, .slice none 0 0, .slice none 0 0, .slice none 0 0] 52)) := Sx
              have hOn : (V2.alloc (.cells #[.slice none 0 0, .slice none 0 0, .int .i64 0, .slice none 0 0, .slice none 0 0, .slice none 0 0, .slice none 0 0] 52)).heap[o]? = some (Obj.cells #[.slice none 0 0, .slice none 0 0, .int .i64 0, .slice none 0 0, .slice none 0 0, .slice none 0 0, .slice none 0 0] 52 (0, 0)) := by rw [hX]; exact alloc_at _ _ _ rfl
              (try rw [← hX])
              have hJ := hJ.of hsN
              have hB := hB.trans hsN
              have hO := hOn
              clear hOn
              have ho0 : w.heap.size + 2 ≤ o := by omega
              clear hsN hX
              generalize V2.alloc (.cells #[.slice none 0 0, .slice none 0 0, .int .i64 0, .slice none 0 0, .slice none 0 0, .slice none 0 0, .slice none 0 0] 52) = V3 at *
              have hzz := hB.size
              (try simp only [World.size_alloc] at hzz)
              refine stepL (i := 6) (by kernel_rfl) rfl (fun K' hK => ?_)
              refine step_make_owns (by rfl) (.tmp 50) (.tmp 50) 40 (by rfl) encB_len false b0i _ 1 Tryz.underlying40 BI.out.1 BI.out.2.1 BI.out.2.2.1 BI.out.2.2.2 rfl (by omega) (base := w.heap.size + 2) L.length L.length (by rfl) (by rfl) (Nat.le_refl _) (by omega) (by unfold maxLen; omega) (by omega) ?_
              intro dcs hDn
              have hOw : Nonempty (Old V3 w.heap.size) := ⟨⟨by omega⟩⟩
              refine hK.out _ _ ?_ (fun hHeld4 => ?_)
              · simp [go_sem, hHeld3]
              clear hK K' hHeld3
              obtain ⟨nd, hX⟩ : ∃ n, n = V3.heap.size := ⟨_, rfl⟩
              have hsN : SinceOf V3 (V3.alloc (.cells dcs 4)) := Sx
              rw [← hX] at hDn
              (try rw [← hX])
              have hJ := hJ.of hsN
              have hO := heapAt hO hsN
              have hB := hB.trans hsN
              have hD := hDn
              clear hDn hsN hX
              generalize V3.alloc (.cells dcs 4) = V4 at *
              have hzz := hB.size
              (try simp only [World.size_alloc] at hzz)
              refine tK (i := 7) (d := some 52) (v := ?_) rfl rfl (fun _ _ _ h => h) (Or.inl ⟨by rfl, ?_⟩) (by assumption) ?_
              rotate_left 1
              · (intro w hSw; (try dsimp only at hSw); go_simp) <;> (with_reducible rfl)
              (try simp only [Act.put, List.setIfInBounds_toArray, List.set_cons_zero, List.set_cons_succ])
              have w0 := cell_of (i := 0) hO rfl
              have w1 := cell_of (i := 1) hO rfl
              have w2 := cell_of (i := 2) hO rfl
              have w3 := cell_of (i := 3) hO rfl
              have w4 := cell_of (i := 4) hO rfl
              have w5 := cell_of (i := 5) hO rfl
              have w6 := cell_of (i := 6) hO rfl
              have f0 := free_of hO 0
              have f1 := free_of hO 1
              have f2 := free_of hO 2
              have f3 := free_of hO 3
              have f4 := free_of hO 4
              have f5 := free_of hO 5
              have f6 := free_of hO 6
              have hOo : Nonempty (Old V4 o) := ⟨⟨heap_lt hO⟩⟩
              refine lastL (i := 9) (by kernel_rfl) (by rfl) rfl (fun K' hK => ?_)
              go_simp
              refine hK.out _ _ ?_
              clear hK K'
              refine doneL (by kernel_rfl) ?_ _
              go_wp2_with fail
              go_meet
              exact ⟨o, A1, c1, nd, V4, rfl, hO, hJ, hD, ho0, hB, rfl⟩
          · skip
            refine step_make_owns (by rfl) (.tmp 50) (.tmp 50) 40 (by rfl) encB_len false b0i _ 1 Tryz.underlying40 BI.out.1 BI.out.2.1 BI.out.2.2.1 BI.out.2.2.2 rfl (by omega) (base := w.heap.size + 2) L.length L.length (by rfl) (by rfl) (Nat.le_refl _) (by omega) (by unfold maxLen; omega) (by omega) ?_
            intro dcs hDn
            have hOw : Nonempty (Old V1 w.heap.size) := ⟨⟨by omega⟩⟩
            refine hK.out _ _ ?_ (fun hHeld2 => ?_)
            · simp [go_sem, hHeld1]
            clear hK K' hHeld1
            obtain ⟨nd, hX⟩ : ∃ n, n = V1.heap.size := ⟨_, rfl⟩
            have hsN : SinceOf V1 (V1.alloc (.cells dcs 4)) := Sx
            rw [← hX] at hDn
            (try rw [← hX])
            have hE := hE.of hsN
            have hB := hB.trans hsN
            have hD := hDn
            clear hDn hsN hX
            generalize V1.alloc (.cells dcs 4) = V2 at *
            have hzz := hB.size
            (try simp only [World.size_alloc] at hzz)
            refine stepL2 (i := 3) (j := 8) (by kernel_rfl) rfl rfl (fun K' hK => ?_) (fun K' hK => ?_)
            · skip
              refine step_append_row (by rfl) (.tmp 46) (.tmp 47) 26 (by rfl) encJ_len (by omega) encJ_one i0 _ 64 Tryz.underlying26 HI.out.1 HI.out.2.1 HI.out.2.2.1 HI.out.2.2.2 rfl (l := []) (A := some ⟨n0, 0, none⟩) (c := 0) (base := w.heap.size + 2) (by rfl) hE (m := L) (B := A) (d := c) (by rfl) (HL.out.row.of ((show SinceOf w ((w.alloc (.cells #[.slice sA cals.length sc, .slice sB R.length sd, .int .i64 most] 25)).alloc (.cells #[.slice none 0 0, .slice none 0 0, .int .i64 0, .slice none 0 0, .slice none 0 0, .slice none 0 0, .slice none 0 0] 52)) from Sx).trans hB)) (by unfold maxLen; first | omega | (simp; omega)) (by first | omega | (simp; omega)) (by omega) ?_
              intro A1 c1 V3 hJn hgr hbl
              rw [List.nil_append] at hJn
              rw [List.length_nil, Nat.zero_add]
              have SB := SameBut.grown (es := [87]) hgr (fun g5 hg5 => by obtain ⟨cur, hc⟩ := hE.typed g5 hg5; exact ⟨cur, _, _, List.mem_singleton.2 rfl, hc⟩)
              have hB := SinceOf.grown hB hgr (by intro q hq; simp [blockOf] at hq; simp; omega)
              have hzN := hgr.size
              refine hK.out _ _ ⟨hgr.cell hHeld2.1 (by simp [blockOf]; omega), hgr.cell hHeld2.2.1 (by simp [blockOf]; omega), hgr.cell hHeld2.2.2 (by simp [blockOf]; omega)⟩ (fun hHeld3 => ?_)
              clear hK K' hHeld2
              have hD := hD.sameBut (by simp) SB
              have hJ := hJn
              clear hJn hE hgr SB hbl
              have hzz := hB.size
              (try simp only [World.size_alloc] at hzz)
              refine tK (i := 7) (d := some 52) (v := ?_) rfl rfl (fun _ _ _ h => h) (Or.inl ⟨by rfl, ?_⟩) (by assumption) ?_
              rotate_left 1
              · (intro w hSw; (try dsimp only at hSw); go_simp) <;> (with_reducible rfl)
              (try simp only [Act.put, List.setIfInBounds_toArray, List.set_cons_zero, List.set_cons_succ])
              refine stepL (i := 8) (by kernel_rfl) rfl (fun K' hK => ?_)
              have hOw : Nonempty (Old V3 w.heap.size) := ⟨⟨by omega⟩⟩
              go_simp
              refine hK.out _ _ ?_ (fun hHeld4 => ?_)
              · simp [go_sem, hHeld3]
              clear hK K' hHeld3
              obtain ⟨o, hX⟩ : ∃ n, n = V3.heap.size := ⟨_, rfl⟩
              have hsN : SinceOf V3 (V3.alloc (.cells #[.slice none 0 0, .slice none 0 0, .int .i64 0, .slice none 0 0, .slice none 0 0, .slice none 0 0, .slice none 0 0] 52)) := Sx
              have hOn : (V3.alloc (.cells #[.slice none 0 0, .slice none 0 0, .int .i64 0, .slice none 0 0, .slice none 0 0, .slice none 0 0, .slice none 0 0] 52)).heap[o]? = some (Obj.cells #[.slice none 0 0, .slice none 0 0, .int .i64 0, .slice none 0 0, .slice none 0 0, .slice none 0 0, .slice none 0 0] 52 (0, 0)) := by rw [hX]; exact alloc_at _ _ _ rfl
              (try rw [← hX])
              have hJ := hJ.of hsN
              have hD := hD.of hsN
              have hB := hB.trans hsN
              have hO := hOn
              clear hOn
              have ho0 : w.heap.size + 2 ≤ o := by omega
              clear hsN hX
              generalize V3.alloc (.cells #[.slice none 0 0, .slice none 0 0, .int .i64 0, .slice none 0 0, .slice none 0 0, .slice none 0 0, .slice none 0 0] 52) = V4 at *
              have hzz := hB.size
              (try simp only [World.size_alloc] at hzz)
              have w0 := cell_of (i := 0) hO rfl
              have w1 := cell_of (i := 1) hO rfl
              have w2 := cell_of (i := 2) hO rfl
              have w3 := cell_of (i := 3) hO rfl
              have w4 := cell_of (i := 4) hO rfl
              have w5 := cell_of (i := 5) hO rfl
              have w6 := cell_of (i := 6) hO rfl
              have f0 := free_of hO 0
              have f1 := free_of hO 1
              have f2 := free_of hO 2
              have f3 := free_of hO 3
              have f4 := free_of hO 4
              have f5 := free_of hO 5
              have f6 := free_of hO 6
              have hOo : Nonempty (Old V4 o) := ⟨⟨heap_lt hO⟩⟩
              refine lastL (i := 9) (by kernel_rfl) (by rfl) rfl (fun K' hK => ?_)
              go_simp
              refine hK.out _ _ ?_
              clear hK K'
              refine doneL (by kernel_rfl) ?_ _
              go_wp2_with fail
              go_meet
              exact ⟨o, A1, c1, nd, V4, rfl, hO, hJ, hD, ho0, hB, rfl⟩
            · skip
              have hOw : Nonempty (Old V2 w.heap.size) := ⟨⟨by omega⟩⟩
              go_simp
              refine hK.out _ _ ?_ (fun hHeld3 => ?_)
              · simp [go_sem, hHeld2]
              clear hK K' hHeld2
              obtain ⟨o, hX⟩ : ∃ n, n = V2.heap.size := ⟨_, rfl⟩
              have hsN : SinceOf V2 (V2.alloc (.cells #[.slice none 0 0, .slice none 0 0, .int .i64 0, .slice none 0 0, .slice none 0 0, .slice none 0 0, .slice none 0 0] 52)) := Sx
              have hOn : (V2.alloc (.cells #[.slice none 0 0, .slice none 0 0, .int .i64 0, .slice none 0 0, .slice none 0 0, .slice none 0 0, .slice none 0 0] 52)).heap[o]? = some (Obj.cells #[.slice none 0 0, .slice none 0 0, .int .i64 0, .slice none 0 0, .slice none 0 0, .slice none 0 0, .slice none 0 0] 52 (0, 0)) := by rw [hX]; exact alloc_at _ _ _ rfl
              (try rw [← hX])
              have hE := hE.of hsN
              have hD := hD.of hsN
              have hB := hB.trans hsN
              have hO := hOn
              clear hOn
              have ho0 : w.heap.size + 2 ≤ o := by omega
              clear hsN hX
              generalize V2.alloc (.cells #[.slice none 0 0, .slice none 0 0, .int .i64 0, .slice none 0 0, .slice none 0 0, .slice none 0 0, .slice none 0 0] 52) = V3 at *
              have hzz := hB.size
              (try simp only [World.size_alloc] at hzz)
              refine stepL (i := 3) (by kernel_rfl) rfl (fun K' hK => ?_)
              refine step_append_row (by rfl) (.tmp 46) (.tmp 47) 26 (by rfl) encJ_len (by omega) encJ_one i0 _ 64 Tryz.underlying26 HI.out.1 HI.out.2.1 HI.out.2.2.1 HI.out.2.2.2 rfl (l := []) (A := some ⟨n0, 0, none⟩) (c := 0) (base := w.heap.size + 2) (by rfl) hE (m := L) (B := A) (d := c) (by rfl) (HL.out.row.of ((show SinceOf w ((w.alloc (.cells #[.slice sA cals.length sc, .slice sB R.length sd, .int .i64 most] 25)).alloc (.cells #[.slice none 0 0, .slice none 0 0, .int .i64 0, .slice none 0 0, .slice none 0 0, .slice none 0 0, .slice none 0 0] 52)) from Sx).trans hB)) (by unfold maxLen; first | omega | (simp; omega)) (by first | omega | (simp; omega)) (by omega) ?_
              intro A1 c1 V4 hJn hgr hbl
              rw [List.nil_append] at hJn
              rw [List.length_nil, Nat.zero_add]
              have SB := SameBut.grown (es := [87]) hgr (fun g5 hg5 => by obtain ⟨cur, hc⟩ := hE.typed g5 hg5; exact ⟨cur, _, _, List.mem_singleton.2 rfl, hc⟩)
              have hB := SinceOf.grown hB hgr (by intro q hq; simp [blockOf] at hq; simp; omega)
              have hzN := hgr.size
              refine hK.out _ _ ⟨hgr.cell hHeld3.1 (by simp [blockOf]; omega), hgr.cell hHeld3.2.1 (by simp [blockOf]; omega), hgr.cell hHeld3.2.2 (by simp [blockOf]; omega)⟩ (fun hHeld4 => ?_)
              clear hK K' hHeld3
              have hD := hD.sameBut (by simp) SB
              have hO := SB _ _ _ _ (by simp) hO
              have hJ := hJn
              clear hJn hE hgr SB hbl
              have hzz := hB.size
              (try simp only [World.size_alloc] at hzz)
              refine tK (i := 7) (d := some 52) (v := ?_) rfl rfl (fun _ _ _ h => h) (Or.inl ⟨by rfl, ?_⟩) (by assumption) ?_
              rotate_left 1
              · (intro w hSw; (try dsimp only at hSw); go_simp) <;> (with_reducible rfl)
              (try simp only [Act.put, List.setIfInBounds_toArray, List.set_cons_zero, List.set_cons_succ])
              have w0 := cell_of (i := 0) hO rfl
              have w1 := cell_of (i := 1) hO rfl
              have w2 := cell_of (i := 2) hO rfl
              have w3 := cell_of (i := 3) hO rfl
              have w4 := cell_of (i := 4) hO rfl
              have w5 := cell_of (i := 5) hO rfl
              have w6 := cell_of (i := 6) hO rfl
              have f0 := free_of hO 0
              have f1 := free_of hO 1
              have f2 := free_of hO 2
              have f3 := free_of hO 3
              have f4 := free_of hO 4
              have f5 := free_of hO 5
              have f6 := free_of hO 6
              have hOo : Nonempty (Old V4 o) := ⟨⟨heap_lt hO⟩⟩
              refine lastL (i := 9) (by kernel_rfl) (by rfl) rfl (fun K' hK => ?_)
              go_simp
              refine hK.out _ _ ?_
              clear hK K'
              refine doneL (by kernel_rfl) ?_ _
              go_wp2_with fail
              go_meet
              exact ⟨o, A1, c1, nd, V4, rfl, hO, hJ, hD, ho0, hB, rfl⟩
          · skip
            have hOw : Nonempty (Old V1 w.heap.size) := ⟨⟨by omega⟩⟩
            go_simp
            refine hK.out _ _ ?_ (fun hHeld2 => ?_)
            · simp [go_sem, hHeld1]
            clear hK K' hHeld1
            obtain ⟨o, hX⟩ : ∃ n, n = V1.heap.size := ⟨_, rfl⟩
            have hsN : SinceOf V1 (V1.alloc (.cells #[.slice none 0 0, .slice none 0 0, .int .i64 0, .slice none 0 0, .slice none 0 0, .slice none 0 0, .slice none 0 0] 52)) := Sx
            have hOn : (V1.alloc (.cells #[.slice none 0 0, .slice none 0 0, .int .i64 0, .slice none 0 0, .slice none 0 0, .slice none 0 0, .slice none 0 0] 52)).heap[o]? = some (Obj.cells #[.slice none 0 0, .slice none 0 0, .int .i64 0, .slice none 0 0, .slice none 0 0, .slice none 0 0, .slice none 0 0] 52 (0, 0)) := by rw [hX]; exact alloc_at _ _ _ rfl
            (try rw [← hX])
            have hE := hE.of hsN
            have hB := hB.trans hsN
            have hO := hOn
            clear hOn
            have ho0 : w.heap.size + 2 ≤ o := by omega
            clear hsN hX
            generalize V1.alloc (.cells #[.slice none 0 0, .slice none 0 0, .int .i64 0, .slice none 0 0, .slice none 0 0, .slice none 0 0, .slice none 0 0] 52) = V2 at *
            have hzz := hB.size
            (try simp only [World.size_alloc] at hzz)
            refine stepL2 (i := 3) (j := 6) (by kernel_rfl) rfl rfl (fun K' hK => ?_) (fun K' hK => ?_)
            · skip
              refine step_append_row (by rfl) (.tmp 46) (.tmp 47) 26 (by rfl) encJ_len (by omega) encJ_one i0 _ 64 Tryz.underlying26 HI.out.1 HI.out.2.1 HI.out.2.2.1 HI.out.2.2.2 rfl (l := []) (A := some ⟨n0, 0, none⟩) (c := 0) (base := w.heap.size + 2) (by rfl) hE (m := L) (B := A) (d := c) (by rfl) (HL.out.row.of ((show SinceOf w ((w.alloc (.cells #[.slice sA cals.length sc, .slice sB R.length sd, .int .i64 most] 25)).alloc (.cells #[.slice none 0 0, .slice none 0 0, .int .i64 0, .slice none 0 0, .slice none 0 0, .slice none 0 0, .slice none 0 0] 52)) from Sx).trans hB)) (by unfold maxLen; first | omega | (simp; omega)) (by first | omega | (simp; omega)) (by omega) ?_
              intro A1 c1 V3 hJn hgr hbl
              rw [List.nil_append] at hJn
              rw [List.length_nil, Nat.zero_add]
              have SB := SameBut.grown (es := [87]) hgr (fun g5 hg5 => by obtain ⟨cur, hc⟩ := hE.typed g5 hg5; exact ⟨cur, _, _, List.mem_singleton.2 rfl, hc⟩)
              have hB := SinceOf.grown hB hgr (by intro q hq; simp [blockOf] at hq; simp; omega)
              have hzN := hgr.size
              refine hK.out _ _ ⟨hgr.cell hHeld2.1 (by simp [blockOf]; omega), hgr.cell hHeld2.2.1 (by simp [blockOf]; omega), hgr.cell hHeld2.2.2 (by simp [blockOf]; omega)⟩ (fun hHeld3 => ?_)
              clear hK K' hHeld2
              have hO := SB _ _ _ _ (by simp) hO
              have hJ := hJn
              clear hJn hE hgr SB hbl
              have hzz := hB.size
              (try simp only [World.size_alloc] at hzz)
              refine stepL (i := 6) (by kernel_rfl) rfl (fun K' hK => ?_)
              refine step_make_owns (by rfl) (.tmp 50) (.tmp 50) 40 (by rfl) encB_len false b0i _ 1 Tryz.underlying40 BI.out.1 BI.out.2.1 BI.out.2.2.1 BI.out.2.2.2 rfl (by omega) (base := w.heap.size + 2) L.length L.length (by rfl) (by rfl) (Nat.le_refl _) (by omega) (by unfold maxLen; omega) (by omega) ?_
              intro dcs hDn
              have hOw : Nonempty (Old V3 w.heap.size) := ⟨⟨by omega⟩⟩
              refine hK.out _ _ ?_ (fun hHeld4 => ?_)
              · simp [go_sem, hHeld3]
              clear hK K' hHeld3
              obtain ⟨nd, hX⟩ : ∃ n, n = V3.heap.size := ⟨_, rfl⟩
              have hsN : SinceOf V3 (V3.alloc (.cells dcs 4)) := Sx
              rw [← hX] at hDn
              (try rw [← hX])
              have hJ := hJ.of hsN
              have hO := heapAt hO hsN
              have hB := hB.trans hsN
              have hD := hDn
              clear hDn hsN hX
              generalize V3.alloc (.cells dcs 4) = V4 at *
              have hzz := hB.size
              (try simp only [World.size_alloc] at hzz)
              refine tK (i := 7) (d := some 52) (v := ?_) rfl rfl (fun _ _ _ h => h) (Or.inl ⟨by rfl, ?_⟩) (by assumption) ?_
              rotate_left 1
              · (intro w hSw; (try dsimp only at hSw); go_simp) <;> (with_reducible rfl)
              (try simp only [Act.put, List.setIfInBounds_toArray, List.set_cons_zero, List.set_cons_succ])
              have w0 := cell_of (i := 0) hO rfl
              have w1 := cell_of (i := 1) hO rfl
              have w2 := cell_of (i := 2) hO rfl
              have w3 := cell_of (i := 3) hO rfl
              have w4 := cell_of (i := 4) hO rfl
              have w5 := cell_of (i := 5) hO rfl
              have w6 := cell_of (i := 6) hO rfl
              have f0 := free_of hO 0
              have f1 := free_of hO 1
              have f2 := free_of hO 2
              have f3 := free_of hO 3
              have f4 := free_of hO 4
              have f5 := free_of hO 5
              have f6 := free_of hO 6
              have hOo : Nonempty (Old V4 o) := ⟨⟨heap_lt hO⟩⟩
              refine lastL (i := 9) (by kernel_rfl) (by rfl) rfl (fun K' hK => ?_)
              go_simp
              refine hK.out _ _ ?_
              clear hK K'
              refine doneL (by kernel_rfl) ?_ _
              go_wp2_with fail
              go_meet
              exact ⟨o, A1, c1, nd, V4, rfl, hO, hJ, hD, ho0, hB, rfl⟩
            · skip
              refine step_make_owns (by rfl) (.tmp 50) (.tmp 50) 40 (by rfl) encB_len false b0i _ 1 Tryz.underlying40 BI.out.1 BI.out.2.1 BI.out.2.2.1 BI.out.2.2.2 rfl (by omega) (base := w.heap.size + 2) L.length L.length (by rfl) (by rfl) (Nat.le_refl _) (by omega) (by unfold maxLen; omega) (by omega) ?_
              intro dcs hDn
              have hOw : Nonempty (Old V2 w.heap.size) := ⟨⟨by omega⟩⟩
              refine hK.out _ _ ?_ (fun hHeld3 => ?_)
              · simp [go_sem, hHeld2]
              clear hK K' hHeld2
              obtain ⟨nd, hX⟩ : ∃ n, n = V2.heap.size := ⟨_, rfl⟩
              have hsN : SinceOf V2 (V2.alloc (.cells dcs 4)) := Sx
              rw [← hX] at hDn
              (try rw [← hX])
              have hE := hE.of hsN
              have hO := heapAt hO hsN
              have hB := hB.trans hsN
              have hD := hDn
              clear hDn hsN hX
              generalize V2.alloc (.cells dcs 4) = V3 at *
              have hzz := hB.size
              (try simp only [World.size_alloc] at hzz)
              refine stepL (i := 3) (by kernel_rfl) rfl (fun K' hK => ?_)
              refine step_append_row (by rfl) (.tmp 46) (.tmp 47) 26 (by rfl) encJ_len (by omega) encJ_one i0 _ 64 Tryz.underlying26 HI.out.1 HI.out.2.1 HI.out.2.2.1 HI.out.2.2.2 rfl (l := []) (A := some ⟨n0, 0, none⟩) (c := 0) (base := w.heap.size + 2) (by rfl) hE (m := L) (B := A) (d := c) (by rfl) (HL.out.row.of ((show SinceOf w ((w.alloc (.cells #[.slice sA cals.length sc, .slice sB R.length sd, .int .i64 most] 25)).alloc (.cells #[.slice none 0 0, .slice none 0 0, .int .i64 0, .slice none 0 0, .slice none 0 0, .slice none 0 0, .slice none 0 0] 52)) from Sx).trans hB)) (by unfold maxLen; first | omega | (simp; omega)) (by first | omega | (simp; omega)) (by omega) ?_
              intro A1 c1 V4 hJn hgr hbl
              rw [List.nil_append] at hJn
              rw [List.length_nil, Nat.zero_add]
              have SB := SameBut.grown (es := [87]) hgr (fun g5 hg5 => by obtain ⟨cur, hc⟩ := hE.typed g5 hg5; exact ⟨cur, _, _, List.mem_singleton.2 rfl, hc⟩)
              have hB := SinceOf.grown hB hgr (by intro q hq; simp [blockOf] at hq; simp; omega)
              have hzN := hgr.size
              refine hK.out _ _ ⟨hgr.cell hHeld3.1 (by simp [blockOf]; omega), hgr.cell hHeld3.2.1 (by simp [blockOf]; omega), hgr.cell hHeld3.2.2 (by simp [blockOf]; omega)⟩ (fun hHeld4 => ?_)
              clear hK K' hHeld3
              have hD := hD.sameBut (by simp) SB
              have hO := SB _ _ _ _ (by simp) hO
              have hJ := hJn
              clear hJn hE hgr SB hbl
              have hzz := hB.size
              (try simp only [World.size_alloc] at hzz)
              refine tK (i := 7) (d := some 52) (v := ?_) rfl rfl (fun _ _ _ h => h) (Or.inl ⟨by rfl, ?_⟩) (by assumption) ?_
              rotate_left 1
              · (intro w hSw; (try dsimp only at hSw); go_simp) <;> (with_reducible rfl)
              (try simp only [Act.put, List.setIfInBounds_toArray, List.set_cons_zero, List.set_cons_succ])
              have w0 := cell_of (i := 0) hO rfl
              have w1 := cell_of (i := 1) hO rfl
              have w2 := cell_of (i := 2) hO rfl
              have w3 := cell_of (i := 3) hO rfl
              have w4 := cell_of (i := 4) hO rfl
              have w5 := cell_of (i := 5) hO rfl
              have w6 := cell_of (i := 6) hO rfl
              have f0 := free_of hO 0
              have f1 := free_of hO 1
              have f2 := free_of hO 2
              have f3 := free_of hO 3
              have f4 := free_of hO 4
              have f5 := free_of hO 5
              have f6 := free_of hO 6
              have hOo : Nonempty (Old V4 o) := ⟨⟨heap_lt hO⟩⟩
              refine lastL (i := 9) (by kernel_rfl) (by rfl) rfl (fun K' hK => ?_)
              go_simp
              refine hK.out _ _ ?_
              clear hK K'
              refine doneL (by kernel_rfl) ?_ _
              go_wp2_with fail
              go_meet
              exact ⟨o, A1, c1, nd, V4, rfl, hO, hJ, hD, ho0, hB, rfl⟩
        · skip
          refine step_make_owns (by rfl) (.tmp 50) (.tmp 50) 40 (by rfl) encB_len false b0i _ 1 Tryz.underlying40 BI.out.1 BI.out.2.1 BI.out.2.2.1 BI.out.2.2.2 rfl (by omega) (base := w.heap.size + 2) L.length L.length (by rfl) (by rfl) (Nat.le_refl _) (by omega) (by unfold maxLen; omega) (by omega) ?_
          intro dcs hDn
          have hOw : Nonempty (Old V0 w.heap.size) := ⟨⟨by omega⟩⟩
          refine hK.out _ _ ?_ (fun hHeld1 => ?_)
          · simp [go_sem, hHeld0]
          clear hK K' hHeld0
          obtain ⟨nd, hX⟩ : ∃ n, n = V0.heap.size := ⟨_, rfl⟩
          have hsN : SinceOf V0 (V0.alloc (.cells dcs 4)) := Sx
          rw [← hX] at hDn
          (try rw [← hX])
          have hB := hB.trans hsN
          have hD := hDn
          clear hDn hsN hX
          generalize V0.alloc (.cells dcs 4) = V1 at *
          have hzz := hB.size
          (try simp only [World.size_alloc] at hzz)
          refine stepL2 (i := 1) (j := 8) (by kernel_rfl) rfl rfl (fun K' hK => ?_) (fun K' hK => ?_)
          · skip
            have hOw : Nonempty (Old V1 w.heap.size) := ⟨⟨by omega⟩⟩
            go_simp
            refine hK.out _ _ ?_ (fun hHeld2 => ?_)
            · simp [go_sem, hHeld1]
            clear hK K' hHeld1
            obtain ⟨n0, hX⟩ : ∃ n, n = V1.heap.size := ⟨_, rfl⟩
            have hsN : SinceOf V1 (V1.alloc (.cells #[] 87)) := Sx
            have hEn : Owns encJ 6 (w.heap.size + 2) 87 (V1.alloc (.cells #[] 87)) (some ⟨n0, 0, none⟩) 0 [] := by rw [hX]; exact owns_emptyAt _ _ _ rfl (by omega)
            (try rw [← hX])
            have hD := hD.of hsN
            have hB := hB.trans hsN
            have hE := hEn
            clear hEn
            have hn0 : w.heap.size + 2 ≤ n0 := by omega
            clear hsN hX
            generalize V1.alloc (.cells #[] 87) = V2 at *
            have hzz := hB.size
            (try simp only [World.size_alloc] at hzz)
            refine stepL2 (i := 3) (j := 8) (by kernel_rfl) rfl rfl (fun K' hK => ?_) (fun K' hK => ?_)
            · skip
              refine step_append_row (by rfl) (.tmp 46) (.tmp 47) 26 (by rfl) encJ_len (by omega) encJ_one i0 _ 64 Tryz.underlying26 HI.out.1 HI.out.2.1 HI.out.2.2.1 HI.out.2.2.2 rfl (l := []) (A := some ⟨n0, 0, none⟩) (c := 0) (base := w.heap.size + 2) (by rfl) hE (m := L) (B := A) (d := c) (by rfl) (HL.out.row.of ((show SinceOf w ((w.alloc (.cells #[.slice sA cals.length sc, .slice sB R.length sd, .int .i64 most] 25)).alloc (.cells #[.slice none 0 0, .slice none 0 0, .int .i64 0, .slice none 0 0, .slice none 0 0, .slice none 0 0, .slice none 0 0] 52)) from Sx).trans hB)) (by unfold maxLen; first | omega | (simp; omega)) (by first | omega | (simp; omega)) (by omega) ?_
              intro A1 c1 V3 hJn hgr hbl
              rw [List.nil_append] at hJn
              rw [List.length_nil, Nat.zero_add]
              have SB := SameBut.grown (es := [87]) hgr (fun g5 hg5 => by obtain ⟨cur, hc⟩ := hE.typed g5 hg5; exact ⟨cur, _, _, List.mem_singleton.2 rfl, hc⟩)
              have hB := SinceOf.grown hB hgr (by intro q hq; simp [blockOf] at hq; simp; omega)
              have hzN := hgr.size
              refine hK.out _ _ ⟨hgr.cell hHeld2.1 (by simp [blockOf]; omega), hgr.cell hHeld2.2.1 (by simp [blockOf]; omega), hgr.cell hHeld2.2.2 (by simp [blockOf]; omega)⟩ (fun hHeld3 => ?_)
              clear hK K' hHeld2
              have hD := hD.sameBut (by simp) SB
              have hJ := hJn
              clear hJn hE hgr SB hbl
              have hzz := hB.size
              (try simp only [World.size_alloc] at hzz)
              refine tK (i := 7) (d := some 52) (v := ?_) rfl rfl (fun _ _ _ h => h) (Or.inl ⟨by rfl, ?_⟩) (by assumption) ?_
              rotate_left 1
              · (intro w hSw; (try dsimp only at hSw); go_simp) <;> (with_reducible rfl)
              (try simp only [Act.put, List.setIfInBounds_toArray, List.set_cons_zero, List.set_cons_succ])
              refine stepL (i := 8) (by kernel_rfl) rfl (fun K' hK => ?_)
              have hOw : Nonempty (Old V3 w.heap.size) := ⟨⟨by omega⟩⟩
              go_simp
              refine hK.out _ _ ?_ (fun hHeld4 => ?_)
              · simp [go_sem, hHeld3]
              clear hK K' hHeld3
              obtain ⟨o, hX⟩ : ∃ n, n = V3.heap.size := ⟨_, rfl⟩
              have hsN : SinceOf V3 (V3.alloc (.cells #[.slice none 0 0, .slice none 0 0, .int .i64 0, .slice none 0 0, .slice none 0 0, .slice none 0 0, .slice none 0 0] 52)) := Sx
              have hOn : (V3.alloc (.cells #[.slice none 0 0, .slice none 0 0, .int .i64 0, .slice none 0 0, .slice none 0 0, .slice none 0 0, .slice none 0 0] 52)).heap[o]? = some (Obj.cells #[.slice none 0 0, .slice none 0 0, .int .i64 0, .slice none 0 0, .slice none 0 0, .slice none 0 0, .slice none 0 0] 52 (0, 0)) := by rw [hX]; exact alloc_at _ _ _ rfl
              (try rw [← hX])
              have hJ := hJ.of hsN
              have hD := hD.of hsN
              have hB := hB.trans hsN
              have hO := hOn
              clear hOn
              have ho0 : w.heap.size + 2 ≤ o := by omega
              clear hsN hX
              generalize V3.alloc (.cells #[.slice none 0 0, .slice none 0 0, .int .i64 0, .slice none 0 0, .slice none 0 0, .slice none 0 0, .slice none 0 0] 52) = V4 at *
              have hzz := hB.size
              (try simp only [World.size_alloc] at hzz)
              have w0 := cell_of (i := 0) hO rfl
              have w1 := cell_of (i := 1) hO rfl
              have w2 := cell_of (i := 2) hO rfl
              have w3 := cell_of (i := 3) hO rfl
              have w4 := cell_of (i := 4) hO rfl
              have w5 := cell_of (i := 5) hO rfl
              have w6 := cell_of (i := 6) hO rfl
              have f0 := free_of hO 0
              have f1 := free_of hO 1
              have f2 := free_of hO 2
              have f3 := free_of hO 3
              have f4 := free_of hO 4
              have f5 := free_of hO 5
              have f6 := free_of hO 6
              have hOo : Nonempty (Old V4 o) := ⟨⟨heap_lt hO⟩⟩
              refine lastL (i := 9) (by kernel_rfl) (by rfl) rfl (fun K' hK => ?_)
              go_simp
              refine hK.out _ _ ?_
              clear hK K'
              refine doneL (by kernel_rfl) ?_ _
              go_wp2_with fail
              go_meet
              exact ⟨o, A1, c1, nd, V4, rfl, hO, hJ, hD, ho0, hB, rfl⟩
            · skip
              have hOw : Nonempty (Old V2 w.heap.size) := ⟨⟨by omega⟩⟩
              go_simp
              refine hK.out _ _ ?_ (fun hHeld3 => ?_)
              · simp [go_sem, hHeld2]
              clear hK K' hHeld2
              obtain ⟨o, hX⟩ : ∃ n, n = V2.heap.size := ⟨_, rfl⟩
              have hsN : SinceOf V2 (V2.alloc (.cells #[.slice none 0 0, .slice none 0 0, .int .i64 0, .slice none 0 0, .slice none 0 0, .slice none 0 0, .slice none 0 0] 52)) := Sx
              have hOn : (V2.alloc (.cells #[.slice none 0 0, .slice none 0 0, .int .i64 0, .slice none 0 0, .slice none 0 0, .slice none 0 0, .slice none 0 0] 52)).heap[o]? = some (Obj.cells #[.slice none 0 0, .slice none 0 0, .int .i64 0, .slice none 0 0, .slice none 0 0, .slice none 0 0, .slice none 0 0] 52 (0, 0)) := by rw [hX]; exact alloc_at _ _ _ rfl
              (try rw [← hX])
              have hE := hE.of hsN
              have hD := hD.of hsN
              have hB := hB.trans hsN
              have hO := hOn
              clear hOn
              have ho0 : w.heap.size + 2 ≤ o := by omega
              clear hsN hX
              generalize V2.alloc (.cells #[.slice none 0 0, .slice none 0 0, .int .i64 0, .slice none 0 0, .slice none 0 0, .slice none 0 0, .slice none 0 0] 52) = V3 at *
              have hzz := hB.size
              (try simp only [World.size_alloc] at hzz)
              refine stepL (i := 3) (by kernel_rfl) rfl (fun K' hK => ?_)
              refine step_append_row (by rfl) (.tmp 46) (.tmp 47) 26 (by rfl) encJ_len (by omega) encJ_one i0 _ 64 Tryz.underlying26 HI.out.1 HI.out.2.1 HI.out.2.2.1 HI.out.2.2.2 rfl (l := []) (A := some ⟨n0, 0, none⟩) (c := 0) (base := w.heap.size + 2) (by rfl) hE (m := L) (B := A) (d := c) (by rfl) (HL.out.row.of ((show SinceOf w ((w.alloc (.cells #[.slice sA cals.length sc, .slice sB R.length sd, .int .i64 most] 25)).alloc (.cells #[.slice none 0 0, .slice none 0 0, .int .i64 0, .slice none 0 0, .slice none 0 0, .slice none 0 0, .slice none 0 0] 52)) from Sx).trans hB)) (by unfold maxLen; first | omega | (simp; omega)) (by first | omega | (simp; omega)) (by omega) ?_
              intro A1 c1 V4 hJn hgr hbl
              rw [List.nil_append] at hJn
              rw [List.length_nil, Nat.zero_add]
              have SB := SameBut.grown (es := [87]) hgr (fun g5 hg5 => by obtain ⟨cur, hc⟩ := hE.typed g5 hg5; exact ⟨cur, _, _, List.mem_singleton.2 rfl, hc⟩)
              have hB := SinceOf.grown hB hgr (by intro q hq; simp [blockOf] at hq; simp; omega)
              have hzN := hgr.size
              refine hK.out _ _ ⟨hgr.cell hHeld3.1 (by simp [blockOf]; omega), hgr.cell hHeld3.2.1 (by simp [blockOf]; omega), hgr.cell hHeld3.2.2 (by simp [blockOf]; omega)⟩ (fun hHeld4 => ?_)
              clear hK K' hHeld3
              have hD := hD.sameBut (by simp) SB
              have hO := SB _ _ _ _ (by simp) hO
              have hJ := hJn
              clear hJn hE hgr SB hbl
              have hzz := hB.size
              (try simp only [World.size_alloc] at hzz)
              refine tK (i := 7) (d := some 52) (v := ?_) rfl rfl (fun _ _ _ h => h) (Or.inl ⟨by rfl, ?_⟩) (by assumption) ?_
              rotate_left 1
              · (intro w hSw; (try dsimp only at hSw); go_simp) <;> (with_reducible rfl)
              (try simp only [Act.put, List.setIfInBounds_toArray, List.set_cons_zero, List.set_cons_succ])
              have w0 := cell_of (i := 0) hO rfl
              have w1 := cell_of (i := 1) hO rfl
              have w2 := cell_of (i := 2) hO rfl
              have w3 := cell_of (i := 3) hO rfl
              have w4 := cell_of (i := 4) hO rfl
              have w5 := cell_of (i := 5) hO rfl
              have w6 := cell_of (i := 6) hO rfl
              have f0 := free_of hO 0
              have f1 := free_of hO 1
              have f2 := free_of hO 2
              have f3 := free_of hO 3
              have f4 := free_of hO 4
              have f5 := free_of hO 5
              have f6 := free_of hO 6
              have hOo : Nonempty (Old V4 o) := ⟨⟨heap_lt hO⟩⟩
              refine lastL (i := 9) (by kernel_rfl) (by rfl) rfl (fun K' hK => ?_)
              go_simp
              refine hK.out _ _ ?_
              clear hK K'
              refine doneL (by kernel_rfl) ?_ _
              go_wp2_with fail
              go_meet
              exact ⟨o, A1, c1, nd, V4, rfl, hO, hJ, hD, ho0, hB, rfl⟩
          · skip
            have hOw : Nonempty (Old V1 w.heap.size) := ⟨⟨by omega⟩⟩
            go_simp
            refine hK.out _ _ ?_ (fun hHeld2 => ?_)
            · simp [go_sem, hHeld1]
            clear hK K' hHeld1
            obtain ⟨o, hX⟩ : ∃ n, n = V1.heap.size := ⟨_, rfl⟩
            have hsN : SinceOf V1 (V1.alloc (.cells #[.slice none 0 0, .slice none 0 0, .int .i64 0, .slice none 0 0, .slice none 0 0, .slice none 0 0, .slice none 0 0] 52)) := Sx
            have hOn : (V1.alloc (.cells #[.slice none 0 0, .slice none 0 0, .int .i64 0, .slice none 0 0, .slice none 0 0, .slice none 0 0, .slice none 0 0] 52)).heap[o]? = some (Obj.cells #[.slice none 0 0, .slice none 0 0, .int .i64 0, .slice none 0 0, .slice none 0 0, .slice none 0 0, .slice none 0 0] 52 (0, 0)) := by rw [hX]; exact alloc_at _ _ _ rfl
            (try rw [← hX])
            have hD := hD.of hsN
            have hB := hB.trans hsN
            have hO := hOn
            clear hOn
            have ho0 : w.heap.size + 2 ≤ o := by omega
            clear hsN hX
            generalize V1.alloc (.cells #[.slice none 0 0, .slice none 0 0, .int .i64 0, .slice none 0 0, .slice none 0 0, .slice none 0 0, .slice none 0 0] 52) = V2 at *
            have hzz := hB.size
            (try simp only [World.size_alloc] at hzz)
            refine stepL (i := 1) (by kernel_rfl) rfl (fun K' hK => ?_)
            have hOw : Nonempty (Old V2 w.heap.size) := ⟨⟨by omega⟩⟩
            go_simp
            refine hK.out _ _ ?_ (fun hHeld3 => ?_)
            · simp [go_sem, hHeld2]
            clear hK K' hHeld2
            obtain ⟨n0, hX⟩ : ∃ n, n = V2.heap.size := ⟨_, rfl⟩
            have hsN : SinceOf V2 (V2.alloc (.cells #[] 87)) := Sx
            have hEn : Owns encJ 6 (w.heap.size + 2) 87 (V2.alloc (.cells #[] 87)) (some ⟨n0, 0, none⟩) 0 [] := by rw [hX]; exact owns_emptyAt _ _ _ rfl (by omega)
            (try rw [← hX])
            have hD := hD.of hsN
            have hO := heapAt hO hsN
            have hB := hB.trans hsN
            have hE := hEn
            clear hEn
            have hn0 : w.heap.size + 2 ≤ n0 := by omega
            clear hsN hX
            generalize V2.alloc (.cells #[] 87) = V3 at *
            have hzz := hB.size
            (try simp only [World.size_alloc] at hzz)
            refine stepL (i := 3) (by kernel_rfl) rfl (fun K' hK => ?_)
            refine step_append_row (by rfl) (.tmp 46) (.tmp 47) 26 (by rfl) encJ_len (by omega) encJ_one i0 _ 64 Tryz.underlying26 HI.out.1 HI.out.2.1 HI.out.2.2.1 HI.out.2.2.2 rfl (l := []) (A := some ⟨n0, 0, none⟩) (c := 0) (base := w.heap.size + 2) (by rfl) hE (m := L) (B := A) (d := c) (by rfl) (HL.out.row.of ((show SinceOf w ((w.alloc (.cells #[.slice sA cals.length sc, .slice sB R.length sd, .int .i64 most] 25)).alloc (.cells #[.slice none 0 0, .slice none 0 0, .int .i64 0, .slice none 0 0, .slice none 0 0, .slice none 0 0, .slice none 0 0] 52)) from Sx).trans hB)) (by unfold maxLen; first | omega | (simp; omega)) (by first | omega | (simp; omega)) (by omega) ?_
            intro A1 c1 V4 hJn hgr hbl
            rw [List.nil_append] at hJn
            rw [List.length_nil, Nat.zero_add]
            have SB := SameBut.grown (es := [87]) hgr (fun g5 hg5 => by obtain ⟨cur, hc⟩ := hE.typed g5 hg5; exact ⟨cur, _, _, List.mem_singleton.2 rfl, hc⟩)
            have hB := SinceOf.grown hB hgr (by intro q hq; simp [blockOf] at hq; simp; omega)
            have hzN := hgr.size
            refine hK.out _ _ ⟨hgr.cell hHeld3.1 (by simp [blockOf]; omega), hgr.cell hHeld3.2.1 (by simp [blockOf]; omega), hgr.cell hHeld3.2.2 (by simp [blockOf]; omega)⟩ (fun hHeld4 => ?_)
            clear hK K' hHeld3
            have hD := hD.sameBut (by simp) SB
            have hO := SB _ _ _ _ (by simp) hO
            have hJ := hJn
            clear hJn hE hgr SB hbl
            have hzz := hB.size
            (try simp only [World.size_alloc] at hzz)
            refine tK (i := 7) (d := some 52) (v := ?_) rfl rfl (fun _ _ _ h => h) (Or.inl ⟨by rfl, ?_⟩) (by assumption) ?_
            rotate_left 1
            · (intro w hSw; (try dsimp only at hSw); go_simp) <;> (with_reducible rfl)
            (try simp only [Act.put, List.setIfInBounds_toArray, List.set_cons_zero, List.set_cons_succ])
            have w0 := cell_of (i := 0) hO rfl
            have w1 := cell_of (i := 1) hO rfl
            have w2 := cell_of (i := 2) hO rfl
            have w3 := cell_of (i := 3) hO rfl
            have w4 := cell_of (i := 4) hO rfl
            have w5 := cell_of (i := 5) hO rfl
            have w6 := cell_of (i := 6) hO rfl
            have f0 := free_of hO 0
            have f1 := free_of hO 1
            have f2 := free_of hO 2
            have f3 := free_of hO 3
            have f4 := free_of hO 4
            have f5 := free_of hO 5
            have f6 := free_of hO 6
            have hOo : Nonempty (Old V4 o) := ⟨⟨heap_lt hO⟩⟩
            refine lastL (i := 9) (by kernel_rfl) (by rfl) rfl (fun K' hK => ?_)
            go_simp
            refine hK.out _ _ ?_
            clear hK K'
            refine doneL (by kernel_rfl) ?_ _
            go_wp2_with fail
            go_meet
            exact ⟨o, A1, c1, nd, V4, rfl, hO, hJ, hD, ho0, hB, rfl⟩
        · skip
          have hOw : Nonempty (Old V0 w.heap.size) := ⟨⟨by omega⟩⟩
          go_simp
          refine hK.out _ _ ?_ (fun hHeld1 => ?_)
          · simp [go_sem, hHeld0]
          clear hK K' hHeld0
          obtain ⟨o, hX⟩ : ∃ n, n = V0.heap.size := ⟨_, rfl⟩
          have hsN : SinceOf V0 (V0.alloc (.cells #[.slice none 0 0, .slice none 0 0, .int .i64 0, .slice none 0 0, .slice none 0 0, .slice none 0 0, .slice none 0 0] 52)) := Sx
          have hOn : (V0.alloc (.cells #[.slice none 0 0, .slice none 0 0, .int .i64 0, .slice none 0 0, .slice none 0 0, .slice none 0 0, .slice none 0 0] 52)).heap[o]? = some (Obj.cells #[.slice none 0 0, .slice none 0 0, .int .i64 0, .slice none 0 0, .slice none 0 0, .slice none 0 0, .slice none 0 0] 52 (0, 0)) := by rw [hX]; exact alloc_at _ _ _ rfl
          (try rw [← hX])
          have hB := hB.trans hsN
          have hO := hOn
          clear hOn
          have ho0 : w.heap.size + 2 ≤ o := by omega
          clear hsN hX
          generalize V0.alloc (.cells #[.slice none 0 0, .slice none 0 0, .int .i64 0, .slice none 0 0, .slice none 0 0, .slice none 0 0, .slice none 0 0] 52) = V1 at *
          have hzz := hB.size
          (try simp only [World.size_alloc] at hzz)
          refine stepL2 (i := 1) (j := 6) (by kernel_rfl) rfl rfl (fun K' hK => ?_) (fun K' hK => ?_)
          · skip
            have hOw : Nonempty (Old V1 w.heap.size) := ⟨⟨by omega⟩⟩
            go_simp
            refine hK.out _ _ ?_ (fun hHeld2 => ?_)
            · simp [go_sem, hHeld1]
            clear hK K' hHeld1
            obtain ⟨n0, hX⟩ : ∃ n, n = V1.heap.size := ⟨_, rfl⟩
            have hsN : SinceOf V1 (V1.alloc (.cells #[] 87)) := Sx
            have hEn : Owns encJ 6 (w.heap.size + 2) 87 (V1.alloc (.cells #[] 87)) (some ⟨n0, 0, none⟩) 0 [] := by rw [hX]; exact owns_emptyAt _ _ _ rfl (by omega)
            (try rw [← hX])
            have hO := heapAt hO hsN
            have hB := hB.trans hsN
            have hE := hEn
            clear hEn
            have hn0 : w.heap.size + 2 ≤ n0 := by omega
            clear hsN hX
            generalize V1.alloc (.cells #[] 87) = V2 at *
            have hzz := hB.size
            (try simp only [World.size_alloc] at hzz)
            refine stepL2 (i := 3) (j := 6) (by kernel_rfl) rfl rfl (fun K' hK => ?_) (fun K' hK => ?_)
            · skip
              refine step_append_row (by rfl) (.tmp 46) (.tmp 47) 26 (by rfl) encJ_len (by omega) encJ_one i0 _ 64 Tryz.underlying26 HI.out.1 HI.out.2.1 HI.out.2.2.1 HI.out.2.2.2 rfl (l := []) (A := some ⟨n0, 0, none⟩) (c := 0) (base := w.heap.size + 2) (by rfl) hE (m := L) (B := A) (d := c) (by rfl) (HL.out.row.of ((show SinceOf w ((w.alloc (.cells #[.slice sA cals.length sc, .slice sB R.length sd, .int .i64 most] 25)).alloc (.cells #[.slice none 0 0, .slice none 0 0, .int .i64 0, .slice none 0 0, .slice none 0 0, .slice none 0 0, .slice none 0 0] 52)) from Sx).trans hB)) (by unfold maxLen; first | omega | (simp; omega)) (by first | omega | (simp; omega)) (by omega) ?_
              intro A1 c1 V3 hJn hgr hbl
              rw [List.nil_append] at hJn
              rw [List.length_nil, Nat.zero_add]
              have SB := SameBut.grown (es := [87]) hgr (fun g5 hg5 => by obtain ⟨cur, hc⟩ := hE.typed g5 hg5; exact ⟨cur, _, _, List.mem_singleton.2 rfl, hc⟩)
              have hB := SinceOf.grown hB hgr (by intro q hq; simp [blockOf] at hq; simp; omega)
              have hzN := hgr.size
              refine hK.out _ _ ⟨hgr.cell hHeld2.1 (by simp [blockOf]; omega), hgr.cell hHeld2.2.1 (by simp [blockOf]; omega), hgr.cell hHeld2.2.2 (by simp [blockOf]; omega)⟩ (fun hHeld3 => ?_)
              clear hK K' hHeld2
              have hO := SB _ _ _ _ (by simp) hO
              have hJ := hJn
              clear hJn hE hgr SB hbl
              have hzz := hB.size
              (try simp only [World.size_alloc] at hzz)
              refine stepL (i := 6) (by kernel_rfl) rfl (fun K' hK => ?_)
              refine step_make_owns (by rfl) (.tmp 50) (.tmp 50) 40 (by rfl) encB_len false b0i _ 1 Tryz.underlying40 BI.out.1 BI.out.2.1 BI.out.2.2.1 BI.out.2.2.2 rfl (by omega) (base := w.heap.size + 2) L.length L.length (by rfl) (by rfl) (Nat.le_refl _) (by omega) (by unfold maxLen; omega) (by omega) ?_
              intro dcs hDn
              have hOw : Nonempty (Old V3 w.heap.size) := ⟨⟨by omega⟩⟩
              refine hK.out _ _ ?_ (fun hHeld4 => ?_)
              · simp [go_sem, hHeld3]
              clear hK K' hHeld3
              obtain ⟨nd, hX⟩ : ∃ n, n = V3.heap.size := ⟨_, rfl⟩
              have hsN : SinceOf V3 (V3.alloc (.cells dcs 4)) := Sx
              rw [← hX] at hDn
              (try rw [← hX])
              have hJ := hJ.of hsN
              have hO := heapAt hO hsN
              have hB := hB.trans hsN
              have hD := hDn
              clear hDn hsN hX
              generalize V3.alloc (.cells dcs 4) = V4 at *
              have hzz := hB.size
              (try simp only [World.size_alloc] at hzz)
              refine tK (i := 7) (d := some 52) (v := ?_) rfl rfl (fun _ _ _ h => h) (Or.inl ⟨by rfl, ?_⟩) (by assumption) ?_
              rotate_left 1
              · (intro w hSw; (try dsimp only at hSw); go_simp) <;> (with_reducible rfl)
              (try simp only [Act.put, List.setIfInBounds_toArray, List.set_cons_zero, List.set_cons_succ])
              have w0 := cell_of (i := 0) hO rfl
              have w1 := cell_of (i := 1) hO rfl
              have w2 := cell_of (i := 2) hO rfl
              have w3 := cell_of (i := 3) hO rfl
              have w4 := cell_of (i := 4) hO rfl
              have w5 := cell_of (i := 5) hO rfl
              have w6 := cell_of (i := 6) hO rfl
              have f0 := free_of hO 0
              have f1 := free_of hO 1
              have f2 := free_of hO 2
              have f3 := free_of hO 3
              have f4 := free_of hO 4
              have f5 := free_of hO 5
              have f6 := free_of hO 6
              have hOo : Nonempty (Old V4 o) := ⟨⟨heap_lt hO⟩⟩
              refine lastL (i := 9) (by kernel_rfl) (by rfl) rfl (fun K' hK => ?_)
              go_simp
              refine hK.out _ _ ?_
              clear hK K'
              refine doneL (by kernel_rfl) ?_ _
              go_wp2_with fail
              go_meet
              exact ⟨o, A1, c1, nd, V4, rfl, hO, hJ, hD, ho0, hB, rfl⟩
            · skip
              refine step_make_owns (by rfl) (.tmp 50) (.tmp 50) 40 (by rfl) encB_len false b0i _ 1 Tryz.underlying40 BI.out.1 BI.out.2.1 BI.out.2.2.1 BI.out.2.2.2 rfl (by omega) (base := w.heap.size + 2) L.length L.length (by rfl) (by rfl) (Nat.le_refl _) (by omega) (by unfold maxLen; omega) (by omega) ?_
              intro dcs hDn
              have hOw : Nonempty (Old V2 w.heap.size) := ⟨⟨by omega⟩⟩
              refine hK.out _ _ ?_ (fun hHeld3 => ?_)
              · simp [go_sem, hHeld2]
              clear hK K' hHeld2
              obtain ⟨nd, hX⟩ : ∃ n, n = V2.heap.size := ⟨_, rfl⟩
              have hsN : SinceOf V2 (V2.alloc (.cells dcs 4)) := Sx
              rw [← hX] at hDn
              (try rw [← hX])
              have hE := hE.of hsN
              have hO := heapAt hO hsN
              have hB := hB.trans hsN
              have hD := hDn
              clear hDn hsN hX
              generalize V2.alloc (.cells dcs 4) = V3 at *
              have hzz := hB.size
              (try simp only [World.size_alloc] at hzz)
              refine stepL (i := 3) (by kernel_rfl) rfl (fun K' hK => ?_)
              refine step_append_row (by rfl) (.tmp 46) (.tmp 47) 26 (by rfl) encJ_len (by omega) encJ_one i0 _ 64 Tryz.underlying26 HI.out.1 HI.out.2.1 HI.out.2.2.1 HI.out.2.2.2 rfl (l := []) (A := some ⟨n0, 0, none⟩) (c := 0) (base := w.heap.size + 2) (by rfl) hE (m := L) (B := A) (d := c) (by rfl) (HL.out.row.of ((show SinceOf w ((w.alloc (.cells #[.slice sA cals.length sc, .slice sB R.length sd, .int .i64 most] 25)).alloc (.cells #[.slice none 0 0, .slice none 0 0, .int .i64 0, .slice none 0 0, .slice none 0 0, .slice none 0 0, .slice none 0 0] 52)) from Sx).trans hB)) (by unfold maxLen; first | omega | (simp; omega)) (by first | omega | (simp; omega)) (by omega) ?_
              intro A1 c1 V4 hJn hgr hbl
              rw [List.nil_append] at hJn
              rw [List.length_nil, Nat.zero_add]
              have SB := SameBut.grown (es := [87]) hgr (fun g5 hg5 => by obtain ⟨cur, hc⟩ := hE.typed g5 hg5; exact ⟨cur, _, _, List.mem_singleton.2 rfl, hc⟩)
              have hB := SinceOf.grown hB hgr (by intro q hq; simp [blockOf] at hq; simp; omega)
              have hzN := hgr.size
              refine hK.out _ _ ⟨hgr.cell hHeld3.1 (by simp [blockOf]; omega), hgr.cell hHeld3.2.1 (by simp [blockOf]; omega), hgr.cell hHeld3.2.2 (by simp [blockOf]; omega)⟩ (fun hHeld4 => ?_)
              clear hK K' hHeld3
              have hD := hD.sameBut (by simp) SB
              have hO := SB _ _ _ _ (by simp) hO
              have hJ := hJn
              clear hJn hE hgr SB hbl
              have hzz := hB.size
              (try simp only [World.size_alloc] at hzz)
              refine tK (i := 7) (d := some 52) (v := ?_) rfl rfl (fun _ _ _ h => h) (Or.inl ⟨by rfl, ?_⟩) (by assumption) ?_
              rotate_left 1
              · (intro w hSw; (try dsimp only at hSw); go_simp) <;> (with_reducible rfl)
              (try simp only [Act.put, List.setIfInBounds_toArray, List.set_cons_zero, List.set_cons_succ])
              have w0 := cell_of (i := 0) hO rfl
              have w1 := cell_of (i := 1) hO rfl
              have w2 := cell_of (i := 2) hO rfl
              have w3 := cell_of (i := 3) hO rfl
              have w4 := cell_of (i := 4) hO rfl
              have w5 := cell_of (i := 5) hO rfl
              have w6 := cell_of (i := 6) hO rfl
              have f0 := free_of hO 0
              have f1 := free_of hO 1
              have f2 := free_of hO 2
              have f3 := free_of hO 3
              have f4 := free_of hO 4
              have f5 := free_of hO 5
              have f6 := free_of hO 6
              have hOo : Nonempty (Old V4 o) := ⟨⟨heap_lt hO⟩⟩
              refine lastL (i := 9) (by kernel_rfl) (by rfl) rfl (fun K' hK => ?_)
              go_simp
              refine hK.out _ _ ?_
              clear hK K'
              refine doneL (by kernel_rfl) ?_ _
              go_wp2_with fail
              go_meet
              exact ⟨o, A1, c1, nd, V4, rfl, hO, hJ, hD, ho0, hB, rfl⟩
          · skip
            refine step_make_owns (by rfl) (.tmp 50) (.tmp 50) 40 (by rfl) encB_len false b0i _ 1 Tryz.underlying40 BI.out.1 BI.out.2.1 BI.out.2.2.1 BI.out.2.2.2 rfl (by omega) (base := w.heap.size + 2) L.length L.length (by rfl) (by rfl) (Nat.le_refl _) (by omega) (by unfold maxLen; omega) (by omega) ?_
            intro dcs hDn
            have hOw : Nonempty (Old V1 w.heap.size) := ⟨⟨by omega⟩⟩
            refine hK.out _ _ ?_ (fun hHeld2 => ?_)
            · simp [go_sem, hHeld1]
            clear hK K' hHeld1
            obtain ⟨nd, hX⟩ : ∃ n, n = V1.heap.size := ⟨_, rfl⟩
            have hsN : SinceOf V1 (V1.alloc (.cells dcs 4)) := Sx
            rw [← hX] at hDn
            (try rw [← hX])
            have hO := heapAt hO hsN
            have hB := hB.trans hsN
            have hD := hDn
            clear hDn hsN hX
            generalize V1.alloc (.cells dcs 4) = V2 at *
            have hzz := hB.size
            (try simp only [World.size_alloc] at hzz)
            refine stepL (i := 1) (by kernel_rfl) rfl (fun K' hK => ?_)
            have hOw : Nonempty (Old V2 w.heap.size) := ⟨⟨by omega⟩⟩
            go_simp
            refine hK.out _ _ ?_ (fun hHeld3 => ?_)
            · simp [go_sem, hHeld2]
            clear hK K' hHeld2
            obtain ⟨n0, hX⟩ : ∃ n, n = V2.heap.size := ⟨_, rfl⟩
            have hsN : SinceOf V2 (V2.alloc (.cells #[] 87)) := Sx
            have hEn : Owns encJ 6 (w.heap.size + 2) 87 (V2.alloc (.cells #[] 87)) (some ⟨n0, 0, none⟩) 0 [] := by rw [hX]; exact owns_emptyAt _ _ _ rfl (by omega)
            (try rw [← hX])
            have hD := hD.of hsN
            have hO := heapAt hO hsN
            have hB := hB.trans hsN
            have hE := hEn
            clear hEn
            have hn0 : w.heap.size + 2 ≤ n0 := by omega
            clear hsN hX
            generalize V2.alloc (.cells #[] 87) = V3 at *
            have hzz := hB.size
            (try simp only [World.size_alloc] at hzz)
            refine stepL (i := 3) (by kernel_rfl) rfl (fun K' hK => ?_)
            refine step_append_row (by rfl) (.tmp 46) (.tmp 47) 26 (by rfl) encJ_len (by omega) encJ_one i0 _ 64 Tryz.underlying26 HI.out.1 HI.out.2.1 HI.out.2.2.1 HI.out.2.2.2 rfl (l := []) (A := some ⟨n0, 0, none⟩) (c := 0) (base := w.heap.size + 2) (by rfl) hE (m := L) (B := A) (d := c) (by rfl) (HL.out.row.of ((show SinceOf w ((w.alloc (.cells #[.slice sA cals.length sc, .slice sB R.length sd, .int .i64 most] 25)).alloc (.cells #[.slice none 0 0, .slice none 0 0, .int .i64 0, .slice none 0 0, .slice none 0 0, .slice none 0 0, .slice none 0 0] 52)) from Sx).trans hB)) (by unfold maxLen; first | omega | (simp; omega)) (by first | omega | (simp; omega)) (by omega) ?_
            intro A1 c1 V4 hJn hgr hbl
            rw [List.nil_append] at hJn
            rw [List.length_nil, Nat.zero_add]
            have SB := SameBut.grown (es := [87]) hgr (fun g5 hg5 => by obtain ⟨cur, hc⟩ := hE.typed g5 hg5; exact ⟨cur, _, _, List.mem_singleton.2 rfl, hc⟩)
            have hB := SinceOf.grown hB hgr (by intro q hq; simp [blockOf] at hq; simp; omega)
            have hzN := hgr.size
            refine hK.out _ _ ⟨hgr.cell hHeld3.1 (by simp [blockOf]; omega), hgr.cell hHeld3.2.1 (by simp [blockOf]; omega), hgr.cell hHeld3.2.2 (by simp [blockOf]; omega)⟩ (fun hHeld4 => ?_)
            clear hK K' hHeld3
            have hD := hD.sameBut (by simp) SB
            have hO := SB _ _ _ _ (by simp) hO
            have hJ := hJn
            clear hJn hE hgr SB hbl
            have hzz := hB.size
            (try simp only [World.size_alloc] at hzz)
            refine tK (i := 7) (d := some 52) (v := ?_) rfl rfl (fun _ _ _ h => h) (Or.inl ⟨by rfl, ?_⟩) (by assumption) ?_
            rotate_left 1
            · (intro w hSw; (try dsimp only at hSw); go_simp) <;> (with_reducible rfl)
            (try simp only [Act.put, List.setIfInBounds_toArray, List.set_cons_zero, List.set_cons_succ])
            have w0 := cell_of (i := 0) hO rfl
            have w1 := cell_of (i := 1) hO rfl
            have w2 := cell_of (i := 2) hO rfl
            have w3 := cell_of (i := 3) hO rfl
            have w4 := cell_of (i := 4) hO rfl
            have w5 := cell_of (i := 5) hO rfl
            have w6 := cell_of (i := 6) hO rfl
            have f0 := free_of hO 0
            have f1 := free_of hO 1
            have f2 := free_of hO 2
            have f3 := free_of hO 3
            have f4 := free_of hO 4
            have f5 := free_of hO 5
            have f6 := free_of hO 6
            have hOo : Nonempty (Old V4 o) := ⟨⟨heap_lt hO⟩⟩
            refine lastL (i := 9) (by kernel_rfl) (by rfl) rfl (fun K' hK => ?_)
            go_simp
            refine hK.out _ _ ?_
            clear hK K'
            refine doneL (by kernel_rfl) ?_ _
            go_wp2_with fail
            go_meet
            exact ⟨o, A1, c1, nd, V4, rfl, hO, hJ, hD, ho0, hB, rfl⟩
       case rest =>
        obtain ⟨o, A1, c1, nd, V, rfl, hO, hJ, hD, ho0, hB, rfl⟩ := hcut
        have hof : ∀ b, o ≠ b → (((((((V.setCell ⟨o, 0, none⟩ (.slice sA cals.length sc)).setCell ⟨o, 1, none⟩ (.slice sB R.length sd)).setCell ⟨o, 2, none⟩ (.int .i64 most)).setCell ⟨o, 3, none⟩ (.slice A1 L.length c1)).setCell ⟨o, 4, none⟩ (.slice none 0 0)).setCell ⟨o, 5, none⟩ (.slice none 0 0)).setCell ⟨o, 6, none⟩ (.slice (some ⟨nd, 0, none⟩) L.length L.length)).heap[b]? = V.heap[b]? := fun b hne => by
         (repeat (refine (setHeap_ne hne).trans ?_))
         rfl
        have hBx : SinceOf ((w.alloc (.cells #[.slice sA cals.length sc, .slice sB R.length sd, .int .i64 most] 25)).alloc (.cells #[.slice none 0 0, .slice none 0 0, .int .i64 0, .slice none 0 0, .slice none 0 0, .slice none 0 0, .slice none 0 0] 52)) (((((((V.setCell ⟨o, 0, none⟩ (.slice sA cals.length sc)).setCell ⟨o, 1, none⟩ (.slice sB R.length sd)).setCell ⟨o, 2, none⟩ (.int .i64 most)).setCell ⟨o, 3, none⟩ (.slice A1 L.length c1)).setCell ⟨o, 4, none⟩ (.slice none 0 0)).setCell ⟨o, 5, none⟩ (.slice none 0 0)).setCell ⟨o, 6, none⟩ (.slice (some ⟨nd, 0, none⟩) L.length L.length)) := by
         (repeat (refine SinceOf.setCell ?_ (by simp; omega) _))
         exact hB
        have hcx := set_block (i := 6) (set_block (i := 5) (set_block (i := 4) (set_block (i := 3) (set_block (i := 2) (set_block (i := 1) (set_block (i := 0) hO (.slice sA cals.length sc)) (.slice sB R.length sd)) (.int .i64 most)) (.slice A1 L.length c1)) (.slice none 0 0)) (.slice none 0 0)) (.slice (some ⟨nd, 0, none⟩) L.length L.length)
        have hszx : V.heap.size ≤ (((((((V.setCell ⟨o, 0, none⟩ (.slice sA cals.length sc)).setCell ⟨o, 1, none⟩ (.slice sB R.length sd)).setCell ⟨o, 2, none⟩ (.int .i64 most)).setCell ⟨o, 3, none⟩ (.slice A1 L.length c1)).setCell ⟨o, 4, none⟩ (.slice none 0 0)).setCell ⟨o, 5, none⟩ (.slice none 0 0)).setCell ⟨o, 6, none⟩ (.slice (some ⟨nd, 0, none⟩) L.length L.length)).heap.size := by simp
        have hzB := hB.size
        (try simp only [World.size_alloc] at hzB)
        generalize (((((((V.setCell ⟨o, 0, none⟩ (.slice sA cals.length sc)).setCell ⟨o, 1, none⟩ (.slice sB R.length sd)).setCell ⟨o, 2, none⟩ (.int .i64 most)).setCell ⟨o, 3, none⟩ (.slice A1 L.length c1)).setCell ⟨o, 4, none⟩ (.slice none 0 0)).setCell ⟨o, 5, none⟩ (.slice none 0 0)).setCell ⟨o, 6, none⟩ (.slice (some ⟨nd, 0, none⟩) L.length L.length)) = wx at *
        have hJx : Owns encJ 6 (w.heap.size + 2) 87 wx A1 c1 L := hJ.sameBlock (fun b hb => hof b (fun e => by
         subst e
         obtain ⟨cur, hc⟩ := hJ.typed o hb
         rw [hO] at hc
         simp at hc))
        have hDx : Owns encB 1 (w.heap.size + 2) 4 wx (some ⟨nd, 0, none⟩) L.length (List.replicate L.length false) := hD.sameBlock (fun b hb => hof b (fun e => by
         subst e
         obtain ⟨cur, hc⟩ := hD.typed o hb
         rw [hO] at hc
         simp at hc))
        have hap0 : RfAt wx (w.heap.size + 2) o ⟨⟨sA, sc, cals, sB, sd, R, most⟩, A1, c1, L, none, 0, [], none, 0, [], some ⟨nd, 0, none⟩, L.length, List.replicate L.length false⟩ := by
         refine RfAt.begun (w0 := w) ho0 HW.out.1 HW.out.2.1.all ((show SinceOf w ((w.alloc (.cells #[.slice sA cals.length sc, .slice sB R.length sd, .int .i64 most] 25)).alloc (.cells #[.slice none 0 0, .slice none 0 0, .int .i64 0, .slice none 0 0, .slice none 0 0, .slice none 0 0, .slice none 0 0] 52)) from Sx).trans hBx) (by omega) ?_ hJx hDx
         simpa using hcx
        have HA0 := Lib.hid (And.intro hap0 hBx)
        have hcl0 : cals.length ≤ 6 := HW.out.2.2.2.2.2.cals
        have hszw : w.heap.size + 2 ≤ wx.heap.size := by omega
        clear hof hBx hcx hszx hJx hDx hap0 hO hJ hD hB VA
        obtain ⟨bgP, hbgP⟩ : ∃ b, b = plan.filter fun y => decide (y.start < now) := ⟨_, rfl⟩
        obtain ⟨pdP, hpdP⟩ : ∃ b, b = plan.filter fun y => !decide (y.start < now) := ⟨_, rfl⟩
        have HP := Lib.hid (And.intro hbgP hpdP)
        clear hbgP hpdP
        go_wp2_with fail
        go_loopg [15] evs.length (fun gas s15 wr => ∃ (k : Nat) (x : StR), k ≤ evs.length ∧ evs.length - k ≤ gas ∧ s15 = .int .i64 k ∧ RfAt wr (w.heap.size + 2) o x ∧ w.heap.size + 2 ≤ wr.heap.size ∧ (x.gA = none ∧ x.gc = 0 ∧ x.bg = [] ∧ x.pA = none ∧ x.pc = 0 ∧ x.pd = []) ∧ x.dr.length = x.L.length ∧ x.s.cals.length ≤ 6 ∧ x.L.length ≤ 40 + k ∧ runV now (startV ⟨sA, sc, cals, sB, sd, R, most⟩ L plan now) evs = runV now (plSt x bgP pdP) (evs.drop k) ∧ SinceOf ((w.alloc (.cells #[.slice sA cals.length sc, .slice sB R.length sd, .int .i64 most] 25)).alloc (.cells #[.slice none 0 0, .slice none 0 0, .int .i64 0, .slice none 0 0, .slice none 0 0, .slice none 0 0, .slice none 0 0] 52)) wr)
        case atStart => exact ⟨0, _, by omega, by omega, rfl, HA0.out.1, hszw, ⟨rfl, rfl, rfl, rfl, rfl, rfl⟩, by simp, hcl0, by simp only; omega, by rw [List.drop_zero, HP.out.1, HP.out.2]; congr 1; unfold startV plSt; simp [List.map_const'], HA0.out.2⟩
        case round =>
         clear HA0 hszw
         obtain ⟨k, x, hk, hgas, rfl, hap, hsz, hnil, hdl, hcl, hLl, hst, ⟨z, rfl⟩⟩ := hrel
         by_cases hlt : k < evs.length
         · have hj := HW.out.2.2.2.1.of (w' := z.wd) Sx
           obtain ⟨gj, off, rfl, hr⟩ := hj.at_ (by omega)
           have hOj := hr.there
           have s0 := hr.e0 k hlt
           have s1 := hr.e1 k hlt
           have s2 := hr.e2 k hlt
           have s3 := hr.e3 k hlt
           have s4 := hr.e4 k hlt
           rw [List.drop_eq_getElem_cons hlt] at hst
           obtain ⟨⟨ek, em, ef, et, ej⟩, hy⟩ : ∃ y, y = evs[k] := ⟨_, rfl⟩
           rw [← hy] at s0 s1 s2 s3 s4 hst
           simp only at s0 s1 s2 s3 s4
           have hxs := hap.state (by omega)
           have EV := fun W (hW : SinceOf z.wd W) => refEvent54_any (w.heap.size + 2) x B d plan now bgP pdP HP.out.1 ⟨ek, em, ef, et, ej⟩ W (hxs.of hW) (hap.jobs.of hW) (by have := hW.size; omega) (HW.out.2.2.1.of ((show SinceOf w z.wd from Sx).trans hW)) (by omega) (by omega) (by omega) hdl
           obtain ⟨sv, hsv⟩ : ∃ sv, sv = stepV (plSt x bgP pdP) now ⟨ek, em, ef, et, ej⟩ := ⟨_, rfl⟩
           rw [runV_cons] at hst
           rw [← hsv] at EV hst
           obtain ⟨⟨xsA, xsc, xcals, xsB, xsd, xR, xmost⟩, xA, xc, xL, gA, gc, bg, pA, pc, pd, dA, dc, dr⟩ := x
           simp only at hnil hdl hcl hLl
           obtain ⟨rfl, rfl, rfl, rfl, rfl, rfl⟩ := hnil
           have c0 := cell_of (i := 0) hap.cell rfl
           have c1' := cell_of (i := 1) hap.cell rfl
           have c2 := cell_of (i := 2) hap.cell rfl
           have c3 := cell_of (i := 3) hap.cell rfl
           have c4 := cell_of (i := 4) hap.cell rfl
           have c5 := cell_of (i := 5) hap.cell rfl
           have c6 := cell_of (i := 6) hap.cell rfl
           have hOo := hap.old
           have holt := heap_lt hap.cell
           obtain ⟨q, sx⟩ := sv
           have HX := Lib.hid (And.intro hap (And.intro hsz (And.intro hst (And.intro hdl (And.intro hcl hLl)))))
           clear hap hsz hst hdl hcl hLl hsv hy hr hj hxs
           go_upto_region 12 with fail
           go_cut [16, 17] from 59 to 69 (fun s16 s17 wx => ∃ (t : Nat) (x' : StR), s16 = .pointer (some ⟨t, 0, none⟩) ∧ s17 = .int .i64 q ∧ plSt x' bgP pdP = sx ∧ wx.heap[t]? = some (Obj.cells #[.slice x'.s.A x'.s.cals.length x'.s.c, .slice x'.s.B x'.s.rows.length x'.s.d, .int .i64 x'.s.most, .slice x'.A x'.L.length x'.c, .slice x'.gA x'.bg.length x'.gc, .slice x'.pA x'.pd.length x'.pc, .slice x'.dA x'.dr.length x'.dc] 52 (0, 0)) ∧ StOff (offS (fun b => b = o ∨ b + 1 = w.heap.size + 2) x'.A) wx x' ∧ Owns encJ 6 (w.heap.size + 2) 87 wx x'.A x'.c x'.L ∧ (x'.gA = none ∧ x'.gc = 0 ∧ x'.bg = [] ∧ x'.pA = none ∧ x'.pc = 0 ∧ x'.pd = []) ∧ (x'.s.cals.length = xcals.length ∧ x'.L.length ≤ xL.length + 1 ∧ x'.dr.length + xL.length = x'.L.length + dr.length) ∧ z.wd.heap.size ≤ t ∧ SinceOf z.wd wx)
           case first =>
            go_region_held3 (fun w' => w'.cell? ⟨o, 0, none⟩ = some (.slice xsA xcals.length xsc) ∧ w'.cell? ⟨o, 1, none⟩ = some (.slice xsB xR.length xsd) ∧ w'.cell? ⟨o, 2, none⟩ = some (.int .i64 xmost) ∧ w'.cell? ⟨o, 3, none⟩ = some (.slice xA xL.length xc) ∧ w'.cell? ⟨o, 4, none⟩ = some (.slice none 0 0) ∧ w'.cell? ⟨o, 5, none⟩ = some (.slice none 0 0) ∧ w'.cell? ⟨o, 6, none⟩ = some (.slice dA dr.length dc) ∧ w'.cell? ⟨gj, off + k * 5, none⟩ = some (.int .i64 ek) ∧ w'.cell? ⟨gj, off + k * 5 + 1, none⟩ = some (.int .i64 em) ∧ w'.cell? ⟨gj, off + k * 5 + 2, none⟩ = some (.int .i64 ef) ∧ w'.cell? ⟨gj, off + k * 5 + 3, none⟩ = some (.int .i64 et) ∧ w'.cell? ⟨gj, off + k * 5 + 4, none⟩ = some (.int .i64 ej)) ((simp [go_sem, *]))
             (first
               | (go_at_call 43; refine (EV _ Sx).mono ?_; rintro e _ ⟨x', rfl, hx', hev⟩; obtain ⟨z5, hz5⟩ := hev.since; subst hz5; have hzz := z5.size; (try simp at hzz); obtain ⟨⟨ysA, ysc, ycals, ysB, ysd, yR, ymost⟩, yA, yc, yL, ygA, ygc, ybg, ypA, ypc, ypd, ydA, ydc, ydr⟩ := x'; have HE := Lib.hid (And.intro hx' hev); clear hx' hev))
            all_goals go_wp2_with fail
            all_goals go_meet
            · obtain ⟨h1, h2, h3, h4, h5⟩ := ev_first HX.out.1 HX.out.2.1 Sx HE.out.2
              exact ⟨_, ⟨⟨ysA, ysc, ycals, ysB, ysd, yR, ymost⟩, yA, yc, yL, ygA, ygc, ybg, ypA, ypc, ypd, ydA, ydc, ydr⟩, rfl, rfl, HE.out.1, h1, h2, h3, HE.out.2.slots, HE.out.2.lens, h4, h5⟩
            · obtain ⟨h1, h2, h3, h4, h5⟩ := ev_second HX.out.1 HX.out.2.1 rfl (SinceOf.refl _).drew HE.out.2
              exact ⟨_, ⟨⟨ysA, ysc, ycals, ysB, ysd, yR, ymost⟩, yA, yc, yL, ygA, ygc, ybg, ypA, ypc, ypd, ydA, ydc, ydr⟩, rfl, rfl, HE.out.1, h1, h2, h3, HE.out.2.slots, HE.out.2.lens, h4, h5⟩
           case rest =>
            obtain ⟨t, x', rfl, rfl, hx', htc, hoff, hjobs, hnil, hlens, htz, ⟨z9, rfl⟩⟩ := hcut
            have HC := Lib.hid (And.intro hx' (And.intro hoff (And.intro hjobs (And.intro hnil hlens))))
            have hoc := heapAt HX.out.1.cell (show SinceOf z.wd z9.wd from ⟨z9, rfl⟩)
            have HOC := Lib.hid (hoc.trans (heapAt HX.out.1.cell (SinceOf.refl _)).symm)
            have hz9 : SinceOf ((w.alloc (.cells #[.slice sA cals.length sc, .slice sB R.length sd, .int .i64 most] 25)).alloc (.cells #[.slice none 0 0, .slice none 0 0, .int .i64 0, .slice none 0 0, .slice none 0 0, .slice none 0 0, .slice none 0 0] 52)) z9.wd := (show SinceOf ((w.alloc (.cells #[.slice sA cals.length sc, .slice sB R.length sd, .int .i64 most] 25)).alloc (.cells #[.slice none 0 0, .slice none 0 0, .int .i64 0, .slice none 0 0, .slice none 0 0, .slice none 0 0, .slice none 0 0] 52)) z.wd from ⟨z, rfl⟩).trans ⟨z9, rfl⟩
            generalize z9.wd = V9 at *
            obtain ⟨z10, rfl⟩ := hz9
            clear EV c0 c1' c2 c3 c4 c5 c6 s0 s1 s2 s3 s4 hx' hoff hjobs hnil hlens
            by_cases h0 : q = 0
            · have f0 : (q != 0) = false := by simp [h0]
              have HQ := Lib.hid h0
              clear h0
              obtain ⟨⟨ysA, ysc, ycals, ysB, ysd, yR, ymost⟩, yA, yc, yL, ygA, ygc, ybg, ypA, ypc, ypd, ydA, ydc, ydr⟩ := x'
              have v0 := cell_of (i := 0) htc rfl
              have v1 := cell_of (i := 1) htc rfl
              have v2 := cell_of (i := 2) htc rfl
              have v3 := cell_of (i := 3) htc rfl
              have v4 := cell_of (i := 4) htc rfl
              have v5 := cell_of (i := 5) htc rfl
              have v6 := cell_of (i := 6) htc rfl
              have o0 := cell_of (i := 0) hoc rfl
              have o1 := cell_of (i := 1) hoc rfl
              have o2 := cell_of (i := 2) hoc rfl
              have o3 := cell_of (i := 3) hoc rfl
              have o4 := cell_of (i := 4) hoc rfl
              have o5 := cell_of (i := 5) hoc rfl
              have o6 := cell_of (i := 6) hoc rfl
              have g0 := free_of hoc 0
              have g1 := free_of hoc 1
              have g2 := free_of hoc 2
              have g3 := free_of hoc 3
              have g4 := free_of hoc 4
              have g5 := free_of hoc 5
              have g6 := free_of hoc 6
              have hOt : Nonempty (Old z10.wd t) := ⟨⟨heap_lt htc⟩⟩
              have hOo10 : Nonempty (Old z10.wd o) := ⟨⟨heap_lt hoc⟩⟩
              have pa1 : Nonempty (Apart t o) := ⟨⟨by omega⟩⟩
              have pa2 : Nonempty (Apart o t) := ⟨⟨by omega⟩⟩
              have HN := Lib.hid (HX.out.1.next HOC.out HC.out.2.1 HC.out.2.2.1)
              clear htc hoc
              go_wp2_with fail
              go_roundg (evs.length - (k + 1))
              case measure => omega
              case rel =>
               have e1 := HC.out.2.2.2.2
               have e2 := HX.out.2.2.2
               (try simp only at e1)
               (try simp only at e2)
               refine ⟨k + 1, ⟨⟨ysA, ysc, ycals, ysB, ysd, yR, ymost⟩, yA, yc, yL, ygA, ygc, ybg, ypA, ypc, ypd, ydA, ydc, ydr⟩, hlt, Nat.le_refl _, by go_num, HN.out, ?_, HC.out.2.2.2.1, by simp only; omega, by simp only; omega, by simp only; omega, by rw [HX.out.2.2.1, if_pos HQ.out, HC.out.1], ?_⟩
               · have := z10.size
                 (try simp only [World.size_alloc] at this)
                 exact Nat.le_trans (by omega) set7_size
               · exact set7_since (by simp; omega) ⟨z10, rfl⟩
            · have f0 : (q != 0) = true := by simp [h0]
              have HQ := Lib.hid h0
              clear h0
              go_wp2_with fail
              go_returns
              have hres : res = (q, noSt) := by rw [HR.out, HX.out.2.2.1, if_neg HQ.out, if_neg HQ.out]
              exact ⟨zeroSt, by rw [hres]; rfl, by rw [hres]; rfl, HZ.out.of Sx, Sx⟩
         · have hkl : k = evs.length := by omega
           rw [hkl, List.drop_length] at hst
           have hrun : runV now (startV ⟨sA, sc, cals, sB, sd, R, most⟩ L plan now) evs = (0, plSt x bgP pdP) := hst
           have hres : res = lastV (plSt x bgP pdP) now := by rw [HR.out, hrun, if_pos rfl]
           obtain ⟨af1, af2, af3⟩ := after_eventsP HP.out.2 HW.out.2.2.2.2.1 HG.out hrun
           obtain ⟨⟨xsA, xsc, xcals, xsB, xsd, xR, xmost⟩, xA, xc, xL, gA, gc, bg, pA, pc, pd, dA, dc, dr⟩ := x
           simp only at hnil hdl hcl hLl af1 af3
           obtain ⟨rfl, rfl, rfl, rfl, rfl, rfl⟩ := hnil
           have hxL : xL.length ≤ 60 := by omega
           have c3 := cell_of (i := 3) hap.cell rfl
           have hOo := hap.old
           have H3 := Lib.hid (And.intro hap hsz)
           have HA := Lib.hid (And.intro af1 (And.intro af2 af3))
           have HRS := Lib.hid hres
           have HDL := Lib.hid hdl
           have hk3w : w.heap.size + 2 ≤ o := hap.base
           clear hap hsz hst hkl hrun hres af1 af2 af3 hdl HR hLl
           go_wp2_with fail
           go_loopg [18] xL.length (fun gas s18 wr => ∃ k : Nat, k ≤ xL.length ∧ xL.length - k ≤ gas ∧ s18 = .int .i64 k ∧ RfAt wr (w.heap.size + 2) o ⟨⟨xsA, xsc, xcals, xsB, xsd, xR, xmost⟩, xA, xc, laterTo bgP now k xL, none, 0, [], none, 0, [], dA, dc, dr⟩ ∧ w.heap.size + 2 ≤ wr.heap.size ∧ SinceOf ((w.alloc (.cells #[.slice sA cals.length sc, .slice sB R.length sd, .int .i64 most] 25)).alloc (.cells #[.slice none 0 0, .slice none 0 0, .int .i64 0, .slice none 0 0, .slice none 0 0, .slice none 0 0, .slice none 0 0] 52)) wr)
           case atStart => exact ⟨0, by omega, by omega, rfl, by rw [laterTo_zero]; exact H3.out.1, H3.out.2, ⟨z, rfl⟩⟩
           case round =>
            clear H3 hOo c3
            obtain ⟨k4, hk4, hgas4, rfl, hap, hsz, ⟨z4, rfl⟩⟩ := hrel
            have hlL := laterTo_length bgP now k4 xL
            have hOo := hap.old
            have c3 := cell_of (i := 3) hap.cell rfl
            simp only [hlL] at c3
            by_cases hlt4 : k4 < xL.length
            · have BG : ∀ W, SinceOf z4.wd W → Gives Tryz.prog 44 #[.slice B plan.length d, .int .i64 now, .int .i64 k4] W (.bool (begunJ bgP k4)) := fun W hW => by
               have h := refBegun54_any B d plan now k4 W (HW.out.2.2.1.of ((show SinceOf w z4.wd from Sx).trans hW)) (by omega)
               rw [begP_any, ← HP.out.1] at h
               exact h
              obtain ⟨bv, hbv⟩ : ∃ bv, bv = begunJ bgP k4 := ⟨_, rfl⟩
              rw [← hbv] at BG
              cases bv
              · obtain ⟨q, hq, hqb, hlive⟩ := hap.jobs.live encJ_len (by simp only [hlL]; omega)
                simp only at hq
                subst hq
                have hO2 := hlive.row.there
                have r0 := hlive.row.j3 k4 (by simp only [hlL]; exact hlt4)
                have f0 := hlive.free (k4 * 6 + 3) (by simp only [hlL]; omega)
                simp only [laterTo_at bgP now hlt4, Nat.zero_add] at r0 f0
                obtain ⟨rl, hrl⟩ : ∃ r, r = xL[k4].rel := ⟨_, rfl⟩
                rw [← hrl] at r0
                have HQ := Lib.hid (And.intro hap (And.intro hsz (And.intro hbv (And.intro hrl hqb))))
                clear hap hsz hbv hlive hrl
                go_wp2_with fail
                refine (BG _ Sx).calls.mono ?_
                rintro e _ ⟨rfl, z5, rfl⟩
                go_wp2_with fail
                refine regionL [13] (S := (fun w' => w'.cell? ⟨o, 3, none⟩ = some (.slice (some ⟨q, 0, none⟩) xL.length xc) ∧ w'.cell? ⟨q, k4 * 6 + 3, none⟩ = some (.int .i64 rl))) (by kernel_rfl) ?_ (fun hHeld0 => ?_)
                · simp [go_sem, *]
                refine tK (i := 0) (d := some 87) (v := ?_) rfl rfl (fun _ _ _ h => h) (Or.inl ⟨by rfl, ?_⟩) (by assumption) ?_
                rotate_left 1
                · (intro w hSw; (try dsimp only at hSw); go_simp) <;> (with_reducible rfl)
                (try simp only [Act.put, List.setIfInBounds_toArray, List.set_cons_zero, List.set_cons_succ])
                refine tK (i := 1) (d := some 88) (v := ?_) rfl rfl (fun _ _ _ h => h) (Or.inl ⟨by rfl, ?_⟩) (by assumption) ?_
                rotate_left 1
                · (intro w hSw; (try dsimp only at hSw); go_simp) <;> (with_reducible rfl)
                (try simp only [Act.put, List.setIfInBounds_toArray, List.set_cons_zero, List.set_cons_succ])
                refine tK (i := 2) (d := some 89) (v := ?_) rfl rfl (fun _ _ _ h => h) (Or.inl ⟨by rfl, ?_⟩) (by assumption) ?_
                rotate_left 1
                · (intro w hSw; (try dsimp only at hSw); go_simp) <;> (with_reducible rfl)
                (try simp only [Act.put, List.setIfInBounds_toArray, List.set_cons_zero, List.set_cons_succ])
                refine tK (i := 3) (d := some 90) (v := ?_) rfl rfl (fun _ _ _ h => h) (Or.inl ⟨by rfl, ?_⟩) (by assumption) ?_
                rotate_left 1
                · (intro w hSw; (try dsimp only at hSw); go_simp) <;> (with_reducible rfl)
                (try simp only [Act.put, List.setIfInBounds_toArray, List.set_cons_zero, List.set_cons_succ])
                refine tK (i := 4) (d := some 91) (v := ?_) rfl rfl (fun _ _ _ h => h) (Or.inl ⟨by rfl, ?_⟩) (by assumption) ?_
                rotate_left 1
                · (intro w hSw; (try dsimp only at hSw); go_simp) <;> (with_reducible rfl)
                (try simp only [Act.put, List.setIfInBounds_toArray, List.set_cons_zero, List.set_cons_succ])
                refine tK (i := 5) (d := some 92) (v := ?_) rfl rfl (fun _ _ _ h => h) (Or.inl ⟨by rfl, ?_⟩) (by assumption) ?_
                rotate_left 1
                · (intro w hSw; (try dsimp only at hSw); go_simp) <;> (with_reducible rfl)
                (try simp only [Act.put, List.setIfInBounds_toArray, List.set_cons_zero, List.set_cons_succ])
                refine tK (i := 6) (d := some 93) (v := ?_) rfl rfl (fun _ _ _ h => h) (Or.inl ⟨by rfl, ?_⟩) (by assumption) ?_
                rotate_left 1
                · (intro w hSw; (try dsimp only at hSw); go_simp) <;> (with_reducible rfl)
                (try simp only [Act.put, List.setIfInBounds_toArray, List.set_cons_zero, List.set_cons_succ])
                refine tK (i := 7) (d := some 94) (v := ?_) rfl rfl (fun _ _ _ h => h) (Or.inl ⟨by rfl, ?_⟩) (by assumption) ?_
                rotate_left 1
                · (intro w hSw; (try dsimp only at hSw); go_simp) <;> (with_reducible rfl)
                (try simp only [Act.put, List.setIfInBounds_toArray, List.set_cons_zero, List.set_cons_succ])
                refine tK (i := 8) (d := some 95) (v := ?_) rfl rfl (fun _ _ _ h => h) (Or.inl ⟨by rfl, ?_⟩) (by assumption) ?_
                rotate_left 1
                · (intro w hSw; (try dsimp only at hSw); go_simp) <;> (with_reducible rfl)
                (try simp only [Act.put, List.setIfInBounds_toArray, List.set_cons_zero, List.set_cons_succ])
                refine tK (i := 9) (d := some 96) (v := ?_) rfl rfl (fun _ _ _ h => h) (Or.inl ⟨by rfl, ?_⟩) (by assumption) ?_
                rotate_left 1
                · (intro w hSw; (try dsimp only at hSw); go_simp) <;> (with_reducible rfl)
                (try simp only [Act.put, List.setIfInBounds_toArray, List.set_cons_zero, List.set_cons_succ])
                refine tK (i := 10) (d := some 97) (v := ?_) rfl rfl (fun _ _ _ h => h) (Or.inl ⟨by rfl, ?_⟩) (by assumption) ?_
                rotate_left 1
                · (intro w hSw; (try dsimp only at hSw); go_simp) <;> (with_reducible rfl)
                (try simp only [Act.put, List.setIfInBounds_toArray, List.set_cons_zero, List.set_cons_succ])
                refine tK (i := 11) (d := some 98) (v := ?_) rfl rfl (fun _ _ _ h => h) (Or.inl ⟨by rfl, ?_⟩) (by assumption) ?_
                rotate_left 1
                · (intro w hSw; (try dsimp only at hSw); go_simp) <;> (with_reducible rfl)
                (try simp only [Act.put, List.setIfInBounds_toArray, List.set_cons_zero, List.set_cons_succ])
                refine tK (i := 12) (d := some 99) (v := ?_) rfl rfl (fun _ _ _ h => h) (Or.inl ⟨by rfl, ?_⟩) (by assumption) ?_
                rotate_left 1
                · (intro w hSw; (try dsimp only at hSw); go_simp) <;> (with_reducible rfl)
                (try simp only [Act.put, List.setIfInBounds_toArray, List.set_cons_zero, List.set_cons_succ])
                refine lastL (i := 13) (by kernel_rfl) (by rfl) rfl (fun K' hK => ?_)
                go_simp
                refine hK.out _ _ ?_
                clear hK K'
                refine doneL (by kernel_rfl) ?_ _
                go_wp2_with fail
                go_roundg (xL.length - (k4 + 1))
                case measure => omega
                case rel =>
                 have h5 := (HQ.out.1.of (show SinceOf z4.wd z5.wd from Sx)).release hlt4 HQ.out.2.2.1.symm
                 rw [← HQ.out.2.2.2.1] at h5
                 have h6 := h5.of (SinceOf.refl _).drew
                 refine ⟨k4 + 1, hlt4, Nat.le_refl _, by go_num, h6, ?_, ?_⟩
                 · have := HQ.out.2.1
                   have := z5.size
                   simp
                   omega
                 · exact SinceOf.drew (SinceOf.setCell Sx (by have := HQ.out.2.2.2.2; simp; omega) _)
              · have HQ := Lib.hid (And.intro hap (And.intro hsz hbv))
                clear hap hsz hbv
                go_wp2_with fail
                refine (BG _ Sx).calls.mono ?_
                rintro e _ ⟨rfl, z5, rfl⟩
                go_wp2_with fail
                go_roundg (xL.length - (k4 + 1))
                case measure => omega
                case rel =>
                 refine ⟨k4 + 1, hlt4, Nat.le_refl _, by go_num, by rw [laterTo_skip hlt4 HQ.out.2.2.symm]; exact HQ.out.1.of Sx, ?_, Sx⟩
                 have := HQ.out.2.1
                 have := z5.size
                 omega
            · have hLL : laterTo bgP now k4 xL = xL.mapIdx (laterJ bgP now) := by rw [show k4 = xL.length by omega, laterTo_all]
              obtain ⟨L', hL'⟩ : ∃ L', L' = laterTo bgP now k4 xL := ⟨_, rfl⟩
              rw [← hL'] at hap hlL hLL
              have hL2 : L'.length = xL.length := hlL
              have ho4 : o < z4.wd.heap.size := heap_lt hap.cell
              have H4 := Lib.hid (And.intro hap hsz)
              have HLL := Lib.hid hLL
              clear hap hsz hLL hL' hlL
              go_wp2_with fail
              go_loopg [19] plan.length (fun gas s19 wr => ∃ (k : Nat) (done pdc : List SlotR) (gA : Option Addr) (gc : Nat) (pA : Option Addr) (pc : Nat), k ≤ plan.length ∧ plan.length - k ≤ gas ∧ s19 = .int .i64 k ∧ RfB z4.wd wr (w.heap.size + 2) o ⟨⟨xsA, xsc, xcals, xsB, xsd, xR, xmost⟩, xA, xc, L', gA, gc, done, pA, pc, pdc, dA, dc, dr⟩ ∧ done.length ≤ k ∧ pdc.length ≤ k ∧ endsV ⟨xsA, xsc, xcals, xsB, xsd, xR, xmost⟩ L' bgP = (endsV ⟨xsA, xsc, xcals, xsB, xsd, xR, xmost⟩ L' ((plan.drop k).filter fun y => decide (y.start < now))).map (done ++ ·) ∧ insAll [] (pdP.filter fun y => !dr.getD y.job.toNat false) = insAll pdc (((plan.drop k).filter fun y => !decide (y.start < now)).filter fun y => !dr.getD y.job.toNat false) ∧ SinceOf ((w.alloc (.cells #[.slice sA cals.length sc, .slice sB R.length sd, .int .i64 most] 25)).alloc (.cells #[.slice none 0 0, .slice none 0 0, .int .i64 0, .slice none 0 0, .slice none 0 0, .slice none 0 0, .slice none 0 0] 52)) wr)
              case atStart => exact ⟨0, [], [], none, 0, none, 0, by omega, by omega, rfl, ⟨Nat.le_refl _, fun _ _ _ _ => rfl, H4.out.1.cell, Owns.nil _ _ _ _ _, Owns.nil _ _ _ _ _, (by intro b hb; cases hb)⟩, Nat.le_refl _, Nat.le_refl _, by rw [List.drop_zero, ← HP.out.1]; simp, by rw [List.drop_zero, ← HP.out.2], ⟨z4, rfl⟩⟩
              case round =>
               clear hOo c3
               obtain ⟨k5, done, pdc, gA, gc, pA, pc, hk5, hgas5, rfl, hrf, hdl5, hpl5, hen, hpe, ⟨z6, rfl⟩⟩ := hrel
               obtain ⟨hsh, hjb, hdrr⟩ := hrf.rows H4.out.1 (by simp only; omega)
               simp only at hsh hjb hdrr
               by_cases hlt5 : k5 < plan.length
               · have hpm := HA.out.1 _ (List.getElem_mem hlt5)
                 rw [List.drop_eq_getElem_cons hlt5] at hen hpe
                 obtain ⟨gp, op, rfl, hrp⟩ := (HW.out.2.2.1.of (show SinceOf w z6.wd from Sx)).at_ (by omega)
                 have hOp := hrp.there
                 have s0 := hrp.s0 k5 hlt5
                 have s1 := hrp.s1 k5 hlt5
                 have s2 := hrp.s2 k5 hlt5
                 have s3 := hrp.s3 k5 hlt5
                 obtain ⟨⟨yj, ym, ys, ye⟩, hy⟩ : ∃ y, y = plan[k5] := ⟨_, rfl⟩
                 rw [← hy] at s0 s1 s2 s3 hpm hen hpe
                 simp only at s0 s1 s2 s3 hpm
                 obtain ⟨j, rfl⟩ : ∃ j : Nat, yj = j := ⟨yj.toNat, by omega⟩
                 obtain ⟨m, rfl⟩ : ∃ m : Nat, ym = m := ⟨ym.toNat, by omega⟩
                 have hj4 : j < xL.length := by omega
                 have hm : m < xcals.length := by omega
                 have hj : j < L'.length := by omega
                 have hOo := hrf.old
                 have c0 := cell_of (i := 0) hrf.cell rfl
                 have c3 := cell_of (i := 3) hrf.cell rfl
                 have c4 := cell_of (i := 4) hrf.cell rfl
                 have c5 := cell_of (i := 5) hrf.cell rfl
                 have c6 := cell_of (i := 6) hrf.cell rfl
                 have f4 := free_of hrf.cell 4
                 have f5 := free_of hrf.cell 5
                 have ho6 : o < z6.wd.heap.size := heap_lt hrf.cell
                 simp only [hL2] at c0 c3 c4 c5 c6
                 by_cases hys : ys < now
                 · -- it has begun
                   have hge : ¬ now ≤ ys := by omega
                   rw [List.filter_cons_of_pos (by simpa using hys)] at hen
                   rw [List.filter_cons_of_neg (by simpa using hys)] at hpe
                   have hj3 : (j : Int) < (xL.length : Int) := by omega
                   have hm3 : (m : Int) < (xcals.length : Int) := by omega
                   have hcal := hsh.cals.all _ (List.getElem_mem hm)
                   obtain ⟨q2, o2, rfl, hrc⟩ := hsh.cals.row.at_ (by simp only; omega)
                   have hO3 := hrc.there
                   have k0 := hrc.k0 m hm
                   have k1 := hrc.k1 m hm
                   have k2 := hrc.k2 m hm
                   obtain ⟨q3, o3, rfl, hrj⟩ := hjb.row.at_ (by omega)
                   have hO4 := hrj.there
                   have d1 := hrj.j1 j hj
                   obtain ⟨du, hdu⟩ : ∃ d, d = L'[j].dur := ⟨_, rfl⟩
                   rw [← hdu] at d1
                   have FN := fun W (hW : SinceOf z6.wd W) => refFinish_any ys du (hcal.of hW)
                   obtain ⟨fv, hfv⟩ : ∃ p, p = finishAt ⟨some ⟨q2, o2, none⟩, xsc, xcals, xsB, xsd, xR, xmost⟩ m ys du := ⟨_, rfl⟩
                   have hfv3 := hfv
                   unfold finishAt at hfv
                   rw [calAt_at hm] at hfv
                   simp only at FN hfv
                   rw [← hfv] at FN
                   obtain ⟨fv, fe⟩ := fv
                   have hfv2 : finishAt ⟨some ⟨q2, o2, none⟩, xsc, xcals, xsB, xsd, xR, xmost⟩ m ys (jobAt L' (j : Int)).dur = (fv, fe) := by rw [jobAt_at hj, ← hdu]; exact hfv3.symm
                   unfold pairV at FN
                   simp only at FN
                   obtain ⟨K, hK⟩ : ∃ K, K = xcals[m] := ⟨_, rfl⟩
                   rw [← hK] at k0 k1 k2 FN
                   obtain ⟨kP, kA, kc, kS, kB, kd, kD⟩ := K
                   simp only at k0 k1 k2 FN
                   have HF := Lib.hid (And.intro hrf (And.intro hen (And.intro hpe (And.intro hfv2 (And.intro hdl5 hpl5)))))
                   clear hrf hen hpe hdu hfv hfv2 hfv3 hK hy hsh hjb hdrr hrp hrc hrj hcal hpm c5 c6 f5
                   go_wp2_with fail
                   go_region_held3 (fun w' => w'.cell? ⟨o, 0, none⟩ = some (.slice (some ⟨q2, o2, none⟩) xcals.length xsc) ∧ w'.cell? ⟨o, 3, none⟩ = some (.slice (some ⟨q3, o3, none⟩) xL.length xc) ∧ w'.cell? ⟨z6.wd.heap.size, 0, none⟩ = some (.int .i64 j) ∧ w'.cell? ⟨z6.wd.heap.size, 1, none⟩ = some (.int .i64 m) ∧ w'.cell? ⟨z6.wd.heap.size, 2, none⟩ = some (.int .i64 ys) ∧ w'.cell? ⟨q2, o2 + m * 3, none⟩ = some (.int .i64 kP) ∧ w'.cell? ⟨q2, o2 + m * 3 + 1, none⟩ = some (.slice kA kS.length kc) ∧ w'.cell? ⟨q2, o2 + m * 3 + 2, none⟩ = some (.slice kB kD.length kd) ∧ w'.cell? ⟨q3, o3 + j * 6 + 1, none⟩ = some (.int .i64 du)) ((simp [go_sem, *]))
                    (first
                      | (go_at_call 46; refine (FN _ Sx).calls.mono ?_; rintro e _ ⟨rfl, z7, rfl⟩))
                   all_goals
                    by_cases h0 : fe = 0
                    · have f0 : (fe != 0) = false := by simp [h0]
                      have HQ := Lib.hid h0
                      clear h0
                      have hz7 := z7.size
                      (try simp at hz7)
                      go_wp2_with (at_builtin; refine wpList_append_row rfl (.tmp 152) (.tmp 154) 29 rfl encS_len (by omega) encS_one s0i _ 32 Tryz.underlying29 SI.out.1 SI.out.2.1 SI.out.2.2.1 SI.out.2.2.2 rfl (l := done) (A := gA) (c := gc) (base := z4.wd.heap.size) rfl (HF.out.1.bg.of Sx) (m := [⟨j, m, ys, fv⟩]) rfl (rowS_at _ _ ⟨j, m, ys, fv⟩ _ (by first | rfl | simp)) (by unfold maxLen; simp; omega) (by simp; omega) (by have := HF.out.1.size; first | omega | (simp; omega)) ?_; intro A3 c3' w4 ho4' hgr4 hbl4; have RB := HF.out.1.of (w' := (z7.wd.setCell ⟨z6.wd.heap.size, 3, none⟩ (.int .i64 fv)).alloc (.cells #[.int .i64 j, .int .i64 m, .int .i64 ys, .int .i64 fv] 77)) Sx; have SB := SameBut.grown (es := [77]) hgr4 (fun g5 hg5 => by obtain ⟨cur, hc⟩ := RB.bg.typed g5 hg5; exact ⟨cur, _, _, List.mem_singleton.2 rfl, hc⟩); have oc := SB o _ _ _ (by simp) RB.cell; have oc4 := cell_of (i := 4) oc rfl; have of4 := free_of oc 4; have hOo4 : Nonempty (Old w4 o) := ⟨⟨heap_lt oc⟩⟩; have HPU := Lib.hid (RB.push ho4' hgr4 hbl4); clear RB SB oc)
                      go_roundg (plan.length - (k5 + 1))
                      case measure => omega
                      case rel =>
                       have h10 := HF.out.2.2.2.1
                       rw [HQ.out] at h10
                       refine ⟨k5 + 1, done ++ [⟨j, m, ys, fv⟩], pdc, A3, c3', pA, pc, hlt5, Nat.le_refl _, by go_num, by have h9 := HPU.out; simp only [List.length_append, List.length_singleton] at h9; exact h9, by have := HF.out.2.2.2.2.1; simp; omega, by have := HF.out.2.2.2.2.2; omega, ?_, HF.out.2.2.1, ?_⟩
                       · rw [HF.out.2.1, endsV_cons_some (y := ⟨j, m, ys, ye⟩) h10, Option.map_map]
                         congr 1
                         funext t
                         simp
                       · exact SinceOf.setCell (SinceOf.grown Sx hgr4 (fun q hq => by have := (HF.out.1.bg.below q hq).1; have := H4.out.2; simp; omega)) (by simp; omega) _
                    · have f0 : (fe != 0) = true := by simp [h0]
                      have HQ := Lib.hid h0
                      clear h0
                      go_wp2_with fail
                      go_returns
                      have hres : res = (8, noSt) := by
                       rw [HRS.out]
                       refine last_noneP ?_
                       simp only
                       rw [← HLL.out, HF.out.2.1, endsV_cons_none (by simp only [HF.out.2.2.2.1]; exact HQ.out)]
                       rfl
                      exact ⟨zeroSt, by rw [hres]; rfl, by rw [hres]; rfl, HZ.out.of Sx, Sx⟩
                 · -- it is pending
                   have hge : now ≤ ys := by omega
                   rw [List.filter_cons_of_neg (by simpa using hys)] at hen
                   rw [List.filter_cons_of_pos (by simpa using hys)] at hpe
                   have hjd : j < dr.length := by have := HDL.out; omega
                   have hjd3 : (j : Int) < (dr.length : Int) := by omega
                   obtain ⟨gd, od, rfl, hrd⟩ := hdrr.at_ (by omega)
                   have hOd := hrd.there
                   have d0 := hrd.cells j hjd 0 (.bool dr[j]) rfl
                   have hv : dr.getD ((j : Int)).toNat false = dr[j] := by rw [Int.toNat_natCast, List.getD_eq_getElem?_getD, List.getElem?_eq_getElem hjd, Option.getD_some]
                   simp only [Nat.mul_one, Nat.add_zero] at d0
                   obtain ⟨bv, hbv⟩ : ∃ bv, bv = dr[j] := ⟨_, rfl⟩
                   rw [← hbv] at d0 hv
                   cases bv
                   · rw [List.filter_cons_of_pos (by simp only [hv]; rfl)] at hpe
                     have IN := fun W (hW : SinceOf z6.wd W) => refInsert54_any pA pc pdc ⟨j, m, ys, ye⟩ W ((hrf.pd.isRow encS_len).of hW) (by omega) hrf.pd.le_cap
                     have HF := Lib.hid (And.intro hrf (And.intro hen (And.intro hpe (And.intro hdl5 hpl5))))
                     clear hrf hen hpe hy hsh hjb hdrr hrp hrd hpm hv hbv
                     go_wp2_with fail
                     refine (IN _ Sx).mono ?_
                     rintro e _ ⟨A3, c3', rfl, hown3, ⟨z7, rfl⟩⟩
                     have HO := Lib.hid hown3
                     have hz7 := z7.size
                     (try simp at hz7)
                     clear hown3
                     go_wp2_with fail
                     go_roundg (plan.length - (k5 + 1))
                     case measure => omega
                     case rel =>
                      have h8 := RfB.pending (HF.out.1.of (SinceOf.alloc (SinceOf.refl _) (.cells #[.int .i64 j, .int .i64 m, .int .i64 ys, .int .i64 ye] 77))) HO.out Sx ho4
                      refine ⟨k5 + 1, done, _, gA, gc, A3, c3', hlt5, Nat.le_refl _, by go_num, h8, by omega, by rw [insS_len]; omega, HF.out.2.1, HF.out.2.2.1, ?_⟩
                      exact SinceOf.setCell Sx (by simp; omega) _
                   · rw [List.filter_cons_of_neg (by simp only [hv]; decide)] at hpe
                     have HF := Lib.hid (And.intro hrf (And.intro hen (And.intro hpe (And.intro hdl5 hpl5))))
                     clear hrf hen hpe hy hsh hjb hdrr hrp hrd hpm hv hbv
                     go_wp2_with fail
                     go_roundg (plan.length - (k5 + 1))
                     case measure => omega
                     case rel =>
                      exact ⟨k5 + 1, done, pdc, gA, gc, pA, pc, hlt5, Nat.le_refl _, by go_num, HF.out.1.of Sx, by omega, by omega, HF.out.2.1, HF.out.2.2.1, Sx⟩
               · have hkl5 : k5 = plan.length := by omega
                 rw [hkl5, List.drop_length] at hen hpe
                 have hen2 : endsV ⟨xsA, xsc, xcals, xsB, xsd, xR, xmost⟩ L' bgP = some done := by rw [hen]; simp [endsV]
                 have hpe2 : insAll [] (pdP.filter fun y => !dr.getD y.job.toNat false) = pdc := hpe
                 have hres : res = (0, erSt ⟨⟨xsA, xsc, xcals, xsB, xsd, xR, xmost⟩, xA, xc, L', gA, gc, done, pA, pc, pdc, dA, dc, dr⟩) := by
                  rw [HRS.out, last_someP (by rw [← HLL.out]; exact hen2) HA.out.2.1]
                  simp only
                  rw [hpe2, ← HLL.out]
                  rfl
                 have hOo := hrf.old
                 have c0 := cell_of (i := 0) hrf.cell rfl
                 have c1' := cell_of (i := 1) hrf.cell rfl
                 have c2 := cell_of (i := 2) hrf.cell rfl
                 have c3 := cell_of (i := 3) hrf.cell rfl
                 have c4 := cell_of (i := 4) hrf.cell rfl
                 have c5 := cell_of (i := 5) hrf.cell rfl
                 have c6 := cell_of (i := 6) hrf.cell rfl
                 have HF := Lib.hid (And.intro hrf (And.intro hsh (And.intro hjb (And.intro hdrr hres))))
                 clear hrf hsh hjb hdrr hres hen hpe hen2 hpe2 hkl5
                 go_wp2_with fail
                 go_returns
                 refine ⟨⟨⟨xsA, xsc, xcals, xsB, xsd, xR, xmost⟩, xA, xc, L', gA, gc, done, pA, pc, pdc, dA, dc, dr⟩, by rw [HF.out.2.2.2.2]; simp only [stateV, hL2], by rw [HF.out.2.2.2.2], ?_, Sx⟩
                 exact RfB.final HF.out.1 H4.out.1 (by simp only; omega) ⟨rfl, rfl, rfl, rfl, rfl, rfl, rfl⟩ rfl H4.out.2
 · rw [if_neg e1] at hres
   subst hres
   have HZ := Lib.hid hz0
   generalize validT s L plan = vt at *
   obtain ⟨v1, v2⟩ := vt
   simp only at e1 VA
   have f1 : (v2 != 0) = true := by simpa using e1
   clear hz0 e1 hs hL hl he
   obtain ⟨sA, sc, cals, sB, sd, R, most⟩ := s
   go_enter Tryz.func16, Tryz.ntmps16
   go_wp2_with fail
   refine (VA _ Sx).calls.mono ?_
   rintro e _ ⟨rfl, z1, rfl⟩
   go_wp2_with fail
   go_returns
   exact ⟨zeroSt, rfl, rfl, HZ.out.of Sx, Sx⟩
end Go.Proofs.YtpaojgfmffkodaaGreat
