/- Layer 54: one event. -/
import Derived.Test.YtpaojgfmffkodaaGreatLRep14
import Derived.Test.YtpaojgfmffkodaaGreatLSl
namespace Go.Proofs.YtpaojgfmffkodaaGreat
set_option linter.unusedVariables false
set_option linter.unusedSimpArgs false
open Go.RowKit Go.Sort
attribute [local go_sem ↓] Go.wp_at_zero Go.wp_at_succ
theorem SameBut.mono {es fs : List TypeId} {w w' : World} (h : SameBut es w w') (hs : ∀ e ∈ es, e ∈ fs) : SameBut fs w w' := fun g cur e fz he hg => h g cur e fz (fun h1 => he (hs e h1)) hg
theorem ChAt.pushTwo {w w' : World} {b0 g : Nat} {now : Int} {x : StR} (h : ChAt w b0 g now x) (SB : SameBut [85, 4] w w') {j : JobR} (hj : Owns encN 1 b0 3 w j.A j.c j.ms) (hm : j.ms.length ≤ 1000000) {A' D' : Option Addr} {c' d' : Nat} {v : Bool} (ho : Owns encJ 6 b0 85 w' A' c' (x.L ++ [j])) (hd : Owns encB 1 b0 4 w' D' d' (x.dr ++ [v])) :
    ChAt ((w'.setCell ⟨g, 3, none⟩ (.slice A' (x.L ++ [j]).length c')).setCell ⟨g, 6, none⟩ (.slice D' (x.dr ++ [v]).length d')) b0 g now ⟨x.s, A', c', x.L ++ [j], x.gA, x.gc, x.bg, x.pA, x.pc, x.pd, D', d', x.dr ++ [v]⟩ := by
  have hc' := SB g _ _ _ (by simp) h.cell
  have S1 : SameBut [92] w' (w'.setCell ⟨g, 3, none⟩ (.slice A' (x.L ++ [j]).length c')) := SameBut.set ⟨_, _, _, List.mem_singleton.2 rfl, hc'⟩
  have hc2 := set_block (i := 3) hc' (.slice A' (x.L ++ [j]).length c')
  have S2 : SameBut [92] _ ((w'.setCell ⟨g, 3, none⟩ (.slice A' (x.L ++ [j]).length c')).setCell ⟨g, 6, none⟩ (.slice D' (x.dr ++ [v]).length d')) := SameBut.set ⟨_, _, _, List.mem_singleton.2 rfl, hc2⟩
  have SC := S1.trans S2
  have hc3 := set_block (i := 6) hc2 (.slice D' (x.dr ++ [v]).length d')
  refine ⟨h.base, hc3, (h.cals.sameBut SB (by simp) (by simp)).sameBut SC (by simp) (by simp), (h.rows.sameBut SB (by simp) (by simp)).sameBut SC (by simp) (by simp), ho.sameBut (by simp) SC, fun i hi => ?_, (h.bg.sameBut (by simp) SB).sameBut (by simp) SC, (h.pd.sameBut (by simp) SB).sameBut (by simp) SC, hd.sameBut (by simp) SC, h.apart⟩
  rcases List.mem_append.1 hi with hi | hi
  · exact ⟨((h.jobsI i hi).1.sameBut (by simp) SB).sameBut (by simp) SC, (h.jobsI i hi).2⟩
  · rw [List.mem_singleton] at hi
    subst hi
    exact ⟨(hj.sameBut (by simp) SB).sameBut (by simp) SC, hm⟩
theorem encB_one1 (p : Bool) : ∀ u ∈ encB p, u.oneCell' = true := by
  intro u hu; simp [encB] at hu; subst hu; rfl
theorem rowB_lit (W : World) (g : Nat) (hg : W.heap.size = g) : IsRow encB 1 (W.alloc (.cells #[.bool false] 4)) (some ⟨g, 0, none⟩) 1 [false] := by
  subst hg; exact isRow_lit encB_len _ _ _ _ 1 [false] rfl rfl (by simp) rfl
set_option maxRecDepth 100000 in
set_option maxHeartbeats 8000000 in
theorem about_any (g : Nat) (A : Option Addr) (c n : Nat) (x : StP) (hl : x.L.length = n) (v : EvR) (w : World) [Nonempty (Old w g)] (k3 : w.cell? ⟨g, 3, none⟩ = some (.slice A n c)) :
    Gives Tryz.prog 67 #[.pointer (some ⟨g, 0, none⟩), evV v] w (.int .i64 (aboutE x v)) := by
  apply Gives.ret
  obtain ⟨vk, vm, vf, vt, vj⟩ := v
  have hv : aboutE x ⟨vk, vm, vf, vt, vj⟩ = if vm ≠ 0 ∨ vf ≠ 0 ∨ vt ≠ 0 then 1 else if vj < 0 ∨ (n : Int) ≤ vj then 6 else 0 := by unfold aboutE; rw [hl]
  rw [hv]
  clear hv hl
  by_cases e : vm ≠ 0 ∨ vf ≠ 0 ∨ vt ≠ 0
  · rw [if_pos e]
    rcases (show vm ≠ 0 ∨ (vm = 0 ∧ vf ≠ 0) ∨ (vm = 0 ∧ vf = 0 ∧ vt ≠ 0) by omega) with e1 | ⟨rfl, e1⟩ | ⟨rfl, rfl, e1⟩
    · have e2 : (vm != 0) = true := by simpa using e1
      clear e e1
      go_enter Tryz.func67, Tryz.ntmps67
      go_wp2_with fail
      go_returns
      exact ⟨rfl, Lx⟩
    · have e2 : (vf != 0) = true := by simpa using e1
      clear e e1
      go_enter Tryz.func67, Tryz.ntmps67
      go_wp2_with fail
      go_returns
      exact ⟨rfl, Lx⟩
    · have e2 : (vt != 0) = true := by simpa using e1
      clear e e1
      go_enter Tryz.func67, Tryz.ntmps67
      go_wp2_with fail
      go_returns
      exact ⟨rfl, Lx⟩
  · rw [if_neg e]
    obtain ⟨rfl, rfl, rfl⟩ : vm = 0 ∧ vf = 0 ∧ vt = 0 := by omega
    clear e
    by_cases e : vj < 0 ∨ (n : Int) ≤ vj
    · rw [if_pos e]
      rcases (show vj < 0 ∨ (¬ vj < 0 ∧ (n : Int) ≤ vj) by omega) with e1 | ⟨e1, e2⟩
      · have d1 : decide (vj < 0) = true := decide_eq_true e1
        clear e
        go_enter Tryz.func67, Tryz.ntmps67
        go_wp2_with fail
        refine region_later (by kernel_rfl) (by kernel_rfl) ?_
        repeat (go_big_quiet_step (fail))
        refine wpQuiet_nil ?_
        rintro _ ⟨zq1, rfl⟩
        go_wp2_with fail
        go_returns
        exact ⟨rfl, Lx⟩
      · have d1 : decide (vj < 0) = false := decide_eq_false e1
        clear e
        go_enter Tryz.func67, Tryz.ntmps67
        go_wp2_with fail
        refine region_later (by kernel_rfl) (by kernel_rfl) ?_
        repeat (go_big_quiet_step (fail))
        refine wpQuiet_nil ?_
        rintro _ ⟨zq1, rfl⟩
        go_wp2_with fail
        go_returns
        exact ⟨rfl, Lx⟩
    · rw [if_neg e]
      have e1 : ¬ vj < 0 := by omega
      have e2 : ¬ (n : Int) ≤ vj := by omega
      have d1 : decide (vj < 0) = false := decide_eq_false e1
      clear e
      go_enter Tryz.func67, Tryz.ntmps67
      go_wp2_with fail
      refine region_later (by kernel_rfl) (by kernel_rfl) ?_
      repeat (go_big_quiet_step (fail))
      refine wpQuiet_nil ?_
      rintro _ ⟨zq1, rfl⟩
      go_wp2_with fail
      go_returns
      exact ⟨rfl, Lx⟩
set_option maxRecDepth 100000 in
set_option maxHeartbeats 16000000 in
theorem step_any (b0 g : Nat) (now : Int) (x : StR) (v : EvR) (w : World) (h : ChAt w b0 g now x) (hb : b0 ≤ w.heap.size) (hn : x.s.cals.length ≤ 1000000) (hL : x.L.length ≤ 1000000) (hbl : x.bg.length ≤ 1000000) (hdl : x.dr.length = x.L.length) :
    Calls Tryz.prog 32 #[.pointer (some ⟨g, 0, none⟩), evV v] w fun e w' => ∃ x' : StR, e = .returned (.int .i64 (stepV (erSt x) now v).1) ∧ erSt x' = (stepV (erSt x) now v).2 ∧ ChAt w' b0 g now x' ∧ Beyond b0 w w' := by
  have hLl : (erSt x).L.length = x.L.length := erL_length x.L
  have hO := h.old
  have k3 := h.c3
  have k4 := h.c4
  have k6 := h.c6
  have hbg0 : (erSt x).bg = x.bg := rfl
  have hdr0 : (erSt x).dr = x.dr := rfl
  have DN := fun W (hW : SinceOf w W) => down_any b0 g now x v W (h.of hW) (by obtain ⟨z, rfl⟩ := hW; have := z.size; omega) hn
  have AB := fun W (hW : SinceOf w W) => (by
    have hO : Nonempty (Old W g) := (h.of hW).old
    exact about_any g x.A x.c x.L.length (erSt x) hLl v W (h.of hW).c3 : Gives Tryz.prog 67 #[.pointer (some ⟨g, 0, none⟩), evV v] W (.int .i64 (aboutE (erSt x) v)))
  have BG := fun W (hW : SinceOf w W) => (by
    have hO : Nonempty (Old W g) := (h.of hW).old
    exact begunC_any g x.gA x.gc x.bg v.job W (h.of hW).c4 ((h.of hW).bg.isRow encS_len) (by omega) : Gives Tryz.prog 33 #[.pointer (some ⟨g, 0, none⟩), .int .i64 v.job] W (.bool (begunJ x.bg v.job)))
  have HW := Lib.hid h
  obtain ⟨res, hres⟩ : ∃ r, r = stepV (erSt x) now v := ⟨_, rfl⟩
  rw [← hres]
  unfold stepV at hres
  by_cases e1 : v.kind = 1
  · rw [if_pos e1] at hres
    subst hres
    generalize shutV (erSt x) now v = sv at *
    obtain ⟨vk, vm, vf, vt, vj⟩ := v
    simp only at e1 DN
    subst e1
    clear AB BG h hLl hbg0 hdr0
    go_enter Tryz.func32, Tryz.ntmps32
    go_wp2_with fail
    refine (DN _ Sx).mono ?_
    rintro e w5 ⟨x', rfl, hx', hch, hbey⟩
    have HX := Lib.hid (And.intro hx' (And.intro hch hbey))
    clear hx' hch hbey
    go_wp2_with fail
    go_returns
    exact ⟨x', rfl, HX.out.1, HX.out.2.1, (Beyond.of Sx).trans HX.out.2.2⟩
  · rw [if_neg e1] at hres
    by_cases e2 : v.kind ≠ 2 ∧ v.kind ≠ 3
    · rw [if_pos e2] at hres
      subst hres
      obtain ⟨vk, vm, vf, vt, vj⟩ := v
      simp only at e1 e2
      have f1 : (vk == 1) = false := by simpa using e1
      have f2 : (vk != 2) = true := by simpa using e2.1
      have f3 : (vk != 3) = true := by simpa using e2.2
      clear AB BG DN h hLl hbg0 hdr0 e1 e2
      go_enter Tryz.func32, Tryz.ntmps32
      go_wp2_with fail
      go_returns
      exact ⟨x, rfl, rfl, HW.out.of Sx, Beyond.of Sx⟩
    · rw [if_neg e2] at hres
      by_cases e3 : aboutE (erSt x) v ≠ 0
      · rw [if_pos e3] at hres
        subst hres
        generalize aboutE (erSt x) v = q at *
        have f4 : (q != 0) = true := by simpa using e3
        obtain ⟨vk, vm, vf, vt, vj⟩ := v
        simp only at e1 e2 AB
        clear BG DN h hLl hbg0 hdr0 e3
        rcases (show vk = 2 ∨ vk = 3 by omega) with rfl | rfl
        all_goals
          clear e1 e2
          go_enter Tryz.func32, Tryz.ntmps32
          go_wp2_with fail
          refine (AB _ Sx).calls.mono ?_
          rintro e _ ⟨rfl, z1, rfl⟩
          go_wp2_with fail
          go_returns
          exact ⟨x, rfl, rfl, HW.out.of Sx, Beyond.of Sx⟩
      · rw [if_neg e3] at hres
        have e4 : aboutE (erSt x) v = 0 := by simpa using e3
        have hj : 0 ≤ v.job ∧ v.job < x.L.length := by
          have k4 := e4
          unfold aboutE at k4
          rw [hLl] at k4
          split at k4
          · cases k4
          · split at k4
            · cases k4
            · omega
        rw [e4] at AB
        obtain ⟨vk, vm, vf, vt, vj⟩ := v
        simp only at e1 e2 AB BG hj hres
        obtain ⟨i, rfl⟩ : ∃ i : Nat, vj = i := ⟨vj.toNat, by omega⟩
        have hi : i < x.dr.length := by omega
        obtain ⟨q, hq, hqb, hlive⟩ := h.dr.live encB_len (by omega)
        have hO2 := hlive.row.there
        have d0 : w.cell? ⟨q, i, none⟩ = some (.bool x.dr[i]) := by
          have := hlive.row.cells i hi 0 (.bool x.dr[i]) rfl
          simpa using this
        have f0 : w.frozen? ⟨q, i, none⟩ = false := by
          have := hlive.free i (by omega)
          simpa using this
        have hdi : x.dr.getD i false = x.dr[i] := by rw [List.getD_eq_getElem?_getD, List.getElem?_eq_getElem hi, Option.getD_some]
        by_cases e5 : vk = 3
        · rw [if_pos e5] at hres
          subst e5
          unfold dropV at hres
          simp only [Int.toNat_natCast] at hres
          rw [hbg0, hdr0, hdi] at hres
          generalize hbv : begunJ x.bg i = bv at *
          have HQ := Lib.hid (And.intro hi hq)
          generalize hdv : x.dr[i] = dv at *
          have HDV := Lib.hid hdv
          clear hdv hbv h
          rw [hq] at k6
          obtain ⟨⟨sA, sc, cals, sB, sd, R, most⟩, A, c, L, gA, gc, bg, pA, pc, pd, dA, dc, dr⟩ := x
          simp only at k3 k4 k6 hq hi hdl hn hL hbl hj hdi
          subst hq
          clear hdi hlive e1 e2 e3 e4 hbg0 hdr0 hLl DN
          cases bv
          · cases dv
            · rw [if_neg (by decide)] at hres
              subst hres
              go_enter Tryz.func32, Tryz.ntmps32
              go_wp2_with fail
              refine (AB _ Sx).calls.mono ?_
              rintro e _ ⟨rfl, z1, rfl⟩
              go_wp2_with fail
              refine regionL [] (S := (fun w' => w'.cell? ⟨w.heap.size, 4, none⟩ = some (.int .i64 i) ∧ w'.cell? ⟨g, 6, none⟩ = some (.slice (some ⟨q, 0, none⟩) dr.length dc) ∧ w'.cell? ⟨q, i, none⟩ = some (.bool false))) (by kernel_rfl) ?_ (fun hHeld0 => ?_)
              · simp [go_sem, *]
              refine tK (i := 0) (d := some 30) (v := ?_) rfl rfl (fun _ _ _ h => h) (Or.inl ⟨by rfl, ?_⟩) (by assumption) ?_
              rotate_left 1
              · (intro w hSw; (try dsimp only at hSw); go_simp) <;> (with_reducible rfl)
              (try simp only [Act.put, List.setIfInBounds_toArray, List.set_cons_zero, List.set_cons_succ])
              refine tK (i := 1) (d := some 31) (v := ?_) rfl rfl (fun _ _ _ h => h) (Or.inl ⟨by rfl, ?_⟩) (by assumption) ?_
              rotate_left 1
              · (intro w hSw; (try dsimp only at hSw); go_simp) <;> (with_reducible rfl)
              (try simp only [Act.put, List.setIfInBounds_toArray, List.set_cons_zero, List.set_cons_succ])
              refine tK (i := 2) (d := some 32) (v := ?_) rfl rfl (fun _ _ _ h => h) (Or.inl ⟨by rfl, ?_⟩) (by assumption) ?_
              rotate_left 1
              · (intro w hSw; (try dsimp only at hSw); go_simp) <;> (with_reducible rfl)
              (try simp only [Act.put, List.setIfInBounds_toArray, List.set_cons_zero, List.set_cons_succ])
              refine stepL (i := 3) (by kernel_rfl) rfl (fun K' hK => ?_)
              go_simp
              refine (BG _ Sx).calls.mono ?_
              rintro e _ ⟨rfl, z2, rfl⟩
              go_wp2_with fail
              refine hK.out _ _ ?_ (fun hHeld1 => ?_)
              · simp [go_sem, hHeld0]
              clear hK K' hHeld0
              refine tK (i := 4) (d := some 34) (v := ?_) rfl rfl (fun _ _ _ h => h) (Or.inl ⟨by rfl, ?_⟩) (by assumption) ?_
              rotate_left 1
              · (intro w hSw; (try dsimp only at hSw); go_simp) <;> (with_reducible rfl)
              (try simp only [Act.put, List.setIfInBounds_toArray, List.set_cons_zero, List.set_cons_succ])
              refine tK (i := 5) (d := some 35) (v := ?_) rfl rfl (fun _ _ _ h => h) (Or.inl ⟨by rfl, ?_⟩) (by assumption) ?_
              rotate_left 1
              · (intro w hSw; (try dsimp only at hSw); go_simp) <;> (with_reducible rfl)
              (try simp only [Act.put, List.setIfInBounds_toArray, List.set_cons_zero, List.set_cons_succ])
              refine tK (i := 6) (d := some 36) (v := ?_) rfl rfl (fun _ _ _ h => h) (Or.inl ⟨by rfl, ?_⟩) (by assumption) ?_
              rotate_left 1
              · (intro w hSw; (try dsimp only at hSw); go_simp) <;> (with_reducible rfl)
              (try simp only [Act.put, List.setIfInBounds_toArray, List.set_cons_zero, List.set_cons_succ])
              refine tK (i := 7) (d := some 37) (v := ?_) rfl rfl (fun _ _ _ h => h) (Or.inl ⟨by rfl, ?_⟩) (by assumption) ?_
              rotate_left 1
              · (intro w hSw; (try dsimp only at hSw); go_simp) <;> (with_reducible rfl)
              (try simp only [Act.put, List.setIfInBounds_toArray, List.set_cons_zero, List.set_cons_succ])
              refine tK (i := 8) (d := some 38) (v := ?_) rfl rfl (fun _ _ _ h => h) (Or.inl ⟨by rfl, ?_⟩) (by assumption) ?_
              rotate_left 1
              · (intro w hSw; (try dsimp only at hSw); go_simp) <;> (with_reducible rfl)
              (try simp only [Act.put, List.setIfInBounds_toArray, List.set_cons_zero, List.set_cons_succ])
              refine tK (i := 9) (d := some 39) (v := ?_) rfl rfl (fun _ _ _ h => h) (Or.inl ⟨by rfl, ?_⟩) (by assumption) ?_
              rotate_left 1
              · (intro w hSw; (try dsimp only at hSw); go_simp) <;> (with_reducible rfl)
              (try simp only [Act.put, List.setIfInBounds_toArray, List.set_cons_zero, List.set_cons_succ])
              refine tK (i := 10) (d := some 40) (v := ?_) rfl rfl (fun _ _ _ h => h) (Or.inl ⟨by rfl, ?_⟩) (by assumption) ?_
              rotate_left 1
              · (intro w hSw; (try dsimp only at hSw); go_simp) <;> (with_reducible rfl)
              (try simp only [Act.put, List.setIfInBounds_toArray, List.set_cons_zero, List.set_cons_succ])
              refine tK (i := 11) (d := some 41) (v := ?_) rfl rfl (fun _ _ _ h => h) (Or.inl ⟨by rfl, ?_⟩) (by assumption) ?_
              rotate_left 1
              · (intro w hSw; (try dsimp only at hSw); go_simp) <;> (with_reducible rfl)
              (try simp only [Act.put, List.setIfInBounds_toArray, List.set_cons_zero, List.set_cons_succ])
              refine tK (i := 12) (d := some 42) (v := ?_) rfl rfl (fun _ _ _ h => h) (Or.inl ⟨by rfl, ?_⟩) (by assumption) ?_
              rotate_left 1
              · (intro w hSw; (try dsimp only at hSw); go_simp) <;> (with_reducible rfl)
              (try simp only [Act.put, List.setIfInBounds_toArray, List.set_cons_zero, List.set_cons_succ])
              refine tK (i := 13) (d := some 43) (v := ?_) rfl rfl (fun _ _ _ h => h) (Or.inl ⟨by rfl, ?_⟩) (by assumption) ?_
              rotate_left 1
              · (intro w hSw; (try dsimp only at hSw); go_simp) <;> (with_reducible rfl)
              (try simp only [Act.put, List.setIfInBounds_toArray, List.set_cons_zero, List.set_cons_succ])
              refine tK (i := 14) (d := some 44) (v := ?_) rfl rfl (fun _ _ _ h => h) (Or.inl ⟨by rfl, ?_⟩) (by assumption) ?_
              rotate_left 1
              · (intro w hSw; (try dsimp only at hSw); go_simp) <;> (with_reducible rfl)
              (try simp only [Act.put, List.setIfInBounds_toArray, List.set_cons_zero, List.set_cons_succ])
              refine doneL (by kernel_rfl) ?_ _
              go_wp2_with fail
              go_big_region
              go_wp2_with fail
              go_returns
              have hC := HW.out.of (show SinceOf w z2.wd from Sx)
              obtain ⟨cur, hcur⟩ := hC.dr.typed q rfl
              exact ⟨_, rfl, rfl, (hC.setDrop rfl HQ.out.1 true).of ((SinceOf.refl _).drew), ((Beyond.of (show SinceOf w z2.wd from Sx)).trans (Beyond.set hqb (by simp [chT]) hcur)).trans (Beyond.of ((SinceOf.refl _).drew))⟩
            · rw [if_pos (by decide)] at hres
              subst hres
              go_enter Tryz.func32, Tryz.ntmps32
              go_wp2_with fail
              refine (AB _ Sx).calls.mono ?_
              rintro e _ ⟨rfl, z1, rfl⟩
              go_wp2_with fail
              refine regionL [] (S := (fun w' => w'.cell? ⟨w.heap.size, 4, none⟩ = some (.int .i64 i) ∧ w'.cell? ⟨g, 6, none⟩ = some (.slice (some ⟨q, 0, none⟩) dr.length dc) ∧ w'.cell? ⟨q, i, none⟩ = some (.bool true))) (by kernel_rfl) ?_ (fun hHeld0 => ?_)
              · simp [go_sem, *]
              refine tK (i := 0) (d := some 30) (v := ?_) rfl rfl (fun _ _ _ h => h) (Or.inl ⟨by rfl, ?_⟩) (by assumption) ?_
              rotate_left 1
              · (intro w hSw; (try dsimp only at hSw); go_simp) <;> (with_reducible rfl)
              (try simp only [Act.put, List.setIfInBounds_toArray, List.set_cons_zero, List.set_cons_succ])
              refine tK (i := 1) (d := some 31) (v := ?_) rfl rfl (fun _ _ _ h => h) (Or.inl ⟨by rfl, ?_⟩) (by assumption) ?_
              rotate_left 1
              · (intro w hSw; (try dsimp only at hSw); go_simp) <;> (with_reducible rfl)
              (try simp only [Act.put, List.setIfInBounds_toArray, List.set_cons_zero, List.set_cons_succ])
              refine tK (i := 2) (d := some 32) (v := ?_) rfl rfl (fun _ _ _ h => h) (Or.inl ⟨by rfl, ?_⟩) (by assumption) ?_
              rotate_left 1
              · (intro w hSw; (try dsimp only at hSw); go_simp) <;> (with_reducible rfl)
              (try simp only [Act.put, List.setIfInBounds_toArray, List.set_cons_zero, List.set_cons_succ])
              refine stepL (i := 3) (by kernel_rfl) rfl (fun K' hK => ?_)
              go_simp
              refine (BG _ Sx).calls.mono ?_
              rintro e _ ⟨rfl, z2, rfl⟩
              go_wp2_with fail
              refine hK.out _ _ ?_ (fun hHeld1 => ?_)
              · simp [go_sem, hHeld0]
              clear hK K' hHeld0
              refine tK (i := 4) (d := some 34) (v := ?_) rfl rfl (fun _ _ _ h => h) (Or.inl ⟨by rfl, ?_⟩) (by assumption) ?_
              rotate_left 1
              · (intro w hSw; (try dsimp only at hSw); go_simp) <;> (with_reducible rfl)
              (try simp only [Act.put, List.setIfInBounds_toArray, List.set_cons_zero, List.set_cons_succ])
              refine tK (i := 5) (d := some 35) (v := ?_) rfl rfl (fun _ _ _ h => h) (Or.inl ⟨by rfl, ?_⟩) (by assumption) ?_
              rotate_left 1
              · (intro w hSw; (try dsimp only at hSw); go_simp) <;> (with_reducible rfl)
              (try simp only [Act.put, List.setIfInBounds_toArray, List.set_cons_zero, List.set_cons_succ])
              refine tK (i := 6) (d := some 36) (v := ?_) rfl rfl (fun _ _ _ h => h) (Or.inl ⟨by rfl, ?_⟩) (by assumption) ?_
              rotate_left 1
              · (intro w hSw; (try dsimp only at hSw); go_simp) <;> (with_reducible rfl)
              (try simp only [Act.put, List.setIfInBounds_toArray, List.set_cons_zero, List.set_cons_succ])
              refine tK (i := 7) (d := some 37) (v := ?_) rfl rfl (fun _ _ _ h => h) (Or.inl ⟨by rfl, ?_⟩) (by assumption) ?_
              rotate_left 1
              · (intro w hSw; (try dsimp only at hSw); go_simp) <;> (with_reducible rfl)
              (try simp only [Act.put, List.setIfInBounds_toArray, List.set_cons_zero, List.set_cons_succ])
              refine tK (i := 8) (d := some 38) (v := ?_) rfl rfl (fun _ _ _ h => h) (Or.inl ⟨by rfl, ?_⟩) (by assumption) ?_
              rotate_left 1
              · (intro w hSw; (try dsimp only at hSw); go_simp) <;> (with_reducible rfl)
              (try simp only [Act.put, List.setIfInBounds_toArray, List.set_cons_zero, List.set_cons_succ])
              refine tK (i := 9) (d := some 39) (v := ?_) rfl rfl (fun _ _ _ h => h) (Or.inl ⟨by rfl, ?_⟩) (by assumption) ?_
              rotate_left 1
              · (intro w hSw; (try dsimp only at hSw); go_simp) <;> (with_reducible rfl)
              (try simp only [Act.put, List.setIfInBounds_toArray, List.set_cons_zero, List.set_cons_succ])
              refine tK (i := 10) (d := some 40) (v := ?_) rfl rfl (fun _ _ _ h => h) (Or.inl ⟨by rfl, ?_⟩) (by assumption) ?_
              rotate_left 1
              · (intro w hSw; (try dsimp only at hSw); go_simp) <;> (with_reducible rfl)
              (try simp only [Act.put, List.setIfInBounds_toArray, List.set_cons_zero, List.set_cons_succ])
              refine tK (i := 11) (d := some 41) (v := ?_) rfl rfl (fun _ _ _ h => h) (Or.inl ⟨by rfl, ?_⟩) (by assumption) ?_
              rotate_left 1
              · (intro w hSw; (try dsimp only at hSw); go_simp) <;> (with_reducible rfl)
              (try simp only [Act.put, List.setIfInBounds_toArray, List.set_cons_zero, List.set_cons_succ])
              refine tK (i := 12) (d := some 42) (v := ?_) rfl rfl (fun _ _ _ h => h) (Or.inl ⟨by rfl, ?_⟩) (by assumption) ?_
              rotate_left 1
              · (intro w hSw; (try dsimp only at hSw); go_simp) <;> (with_reducible rfl)
              (try simp only [Act.put, List.setIfInBounds_toArray, List.set_cons_zero, List.set_cons_succ])
              refine tK (i := 13) (d := some 43) (v := ?_) rfl rfl (fun _ _ _ h => h) (Or.inl ⟨by rfl, ?_⟩) (by assumption) ?_
              rotate_left 1
              · (intro w hSw; (try dsimp only at hSw); go_simp) <;> (with_reducible rfl)
              (try simp only [Act.put, List.setIfInBounds_toArray, List.set_cons_zero, List.set_cons_succ])
              refine tK (i := 14) (d := some 44) (v := ?_) rfl rfl (fun _ _ _ h => h) (Or.inl ⟨by rfl, ?_⟩) (by assumption) ?_
              rotate_left 1
              · (intro w hSw; (try dsimp only at hSw); go_simp) <;> (with_reducible rfl)
              (try simp only [Act.put, List.setIfInBounds_toArray, List.set_cons_zero, List.set_cons_succ])
              refine doneL (by kernel_rfl) ?_ _
              go_wp2_with fail
              go_returns
              exact ⟨_, rfl, rfl, HW.out.of Sx, Beyond.of Sx⟩
          · rw [if_pos (by cases dv <;> rfl)] at hres
            subst hres
            go_enter Tryz.func32, Tryz.ntmps32
            go_wp2_with fail
            refine (AB _ Sx).calls.mono ?_
            rintro e _ ⟨rfl, z1, rfl⟩
            go_wp2_with fail
            refine regionL [] (S := (fun w' => w'.cell? ⟨w.heap.size, 4, none⟩ = some (.int .i64 i) ∧ w'.cell? ⟨g, 6, none⟩ = some (.slice (some ⟨q, 0, none⟩) dr.length dc) ∧ w'.cell? ⟨q, i, none⟩ = some (.bool dv))) (by kernel_rfl) ?_ (fun hHeld0 => ?_)
            · simp [go_sem, *]
            refine tK (i := 0) (d := some 30) (v := ?_) rfl rfl (fun _ _ _ h => h) (Or.inl ⟨by rfl, ?_⟩) (by assumption) ?_
            rotate_left 1
            · (intro w hSw; (try dsimp only at hSw); go_simp) <;> (with_reducible rfl)
            (try simp only [Act.put, List.setIfInBounds_toArray, List.set_cons_zero, List.set_cons_succ])
            refine tK (i := 1) (d := some 31) (v := ?_) rfl rfl (fun _ _ _ h => h) (Or.inl ⟨by rfl, ?_⟩) (by assumption) ?_
            rotate_left 1
            · (intro w hSw; (try dsimp only at hSw); go_simp) <;> (with_reducible rfl)
            (try simp only [Act.put, List.setIfInBounds_toArray, List.set_cons_zero, List.set_cons_succ])
            refine tK (i := 2) (d := some 32) (v := ?_) rfl rfl (fun _ _ _ h => h) (Or.inl ⟨by rfl, ?_⟩) (by assumption) ?_
            rotate_left 1
            · (intro w hSw; (try dsimp only at hSw); go_simp) <;> (with_reducible rfl)
            (try simp only [Act.put, List.setIfInBounds_toArray, List.set_cons_zero, List.set_cons_succ])
            refine stepL (i := 3) (by kernel_rfl) rfl (fun K' hK => ?_)
            go_simp
            refine (BG _ Sx).calls.mono ?_
            rintro e _ ⟨rfl, z2, rfl⟩
            go_wp2_with fail
            refine hK.out _ _ ?_ (fun hHeld1 => ?_)
            · simp [go_sem, hHeld0]
            clear hK K' hHeld0
            refine tK (i := 4) (d := some 34) (v := ?_) rfl rfl (fun _ _ _ h => h) (Or.inl ⟨by rfl, ?_⟩) (by assumption) ?_
            rotate_left 1
            · (intro w hSw; (try dsimp only at hSw); go_simp) <;> (with_reducible rfl)
            (try simp only [Act.put, List.setIfInBounds_toArray, List.set_cons_zero, List.set_cons_succ])
            refine tK (i := 5) (d := some 35) (v := undef) rfl rfl (fun _ _ _ h => h) (Or.inr ⟨by rfl, rfl⟩) (by assumption) ?_
            (try simp only [Act.put, List.setIfInBounds_toArray, List.set_cons_zero, List.set_cons_succ])
            refine tK (i := 6) (d := some 36) (v := undef) rfl rfl (fun _ _ _ h => h) (Or.inr ⟨by rfl, rfl⟩) (by assumption) ?_
            (try simp only [Act.put, List.setIfInBounds_toArray, List.set_cons_zero, List.set_cons_succ])
            refine tK (i := 7) (d := some 37) (v := undef) rfl rfl (fun _ _ _ h => h) (Or.inr ⟨by rfl, rfl⟩) (by assumption) ?_
            (try simp only [Act.put, List.setIfInBounds_toArray, List.set_cons_zero, List.set_cons_succ])
            refine tK (i := 8) (d := some 38) (v := undef) rfl rfl (fun _ _ _ h => h) (Or.inr ⟨by rfl, rfl⟩) (by assumption) ?_
            (try simp only [Act.put, List.setIfInBounds_toArray, List.set_cons_zero, List.set_cons_succ])
            refine tK (i := 9) (d := some 39) (v := undef) rfl rfl (fun _ _ _ h => h) (Or.inr ⟨by rfl, rfl⟩) (by assumption) ?_
            (try simp only [Act.put, List.setIfInBounds_toArray, List.set_cons_zero, List.set_cons_succ])
            refine tK (i := 10) (d := some 40) (v := undef) rfl rfl (fun _ _ _ h => h) (Or.inr ⟨by rfl, rfl⟩) (by assumption) ?_
            (try simp only [Act.put, List.setIfInBounds_toArray, List.set_cons_zero, List.set_cons_succ])
            refine tK (i := 11) (d := some 41) (v := undef) rfl rfl (fun _ _ _ h => h) (Or.inr ⟨by rfl, rfl⟩) (by assumption) ?_
            (try simp only [Act.put, List.setIfInBounds_toArray, List.set_cons_zero, List.set_cons_succ])
            refine tK (i := 12) (d := some 42) (v := undef) rfl rfl (fun _ _ _ h => h) (Or.inr ⟨by rfl, rfl⟩) (by assumption) ?_
            (try simp only [Act.put, List.setIfInBounds_toArray, List.set_cons_zero, List.set_cons_succ])
            refine tK (i := 13) (d := some 43) (v := undef) rfl rfl (fun _ _ _ h => h) (Or.inr ⟨by rfl, rfl⟩) (by assumption) ?_
            (try simp only [Act.put, List.setIfInBounds_toArray, List.set_cons_zero, List.set_cons_succ])
            refine tK (i := 14) (d := some 44) (v := ?_) rfl rfl (fun _ _ _ h => h) (Or.inl ⟨by rfl, ?_⟩) (by assumption) ?_
            rotate_left 1
            · (intro w hSw; (try dsimp only at hSw); go_simp) <;> (with_reducible rfl)
            (try simp only [Act.put, List.setIfInBounds_toArray, List.set_cons_zero, List.set_cons_succ])
            refine doneL (by kernel_rfl) ?_ _
            go_wp2_with fail
            go_returns
            exact ⟨_, rfl, rfl, HW.out.of Sx, Beyond.of Sx⟩
        · rw [if_neg e5] at hres
          obtain rfl : vk = 2 := by omega
          unfold againV at hres
          rw [hbg0, hLl] at hres
          generalize hbv : begunJ x.bg i = bv at *
          clear hbv
          cases bv
          · rw [if_pos rfl] at hres
            subst hres
            clear h hdi hlive e1 e2 e3 e4 hbg0 hdr0 hLl DN hq d0 f0 hO2
            obtain ⟨⟨sA, sc, cals, sB, sd, R, most⟩, A, c, L, gA, gc, bg, pA, pc, pd, dA, dc, dr⟩ := x
            simp only at k3 k4 k6 hi hdl hn hL hbl hj
            go_enter Tryz.func32, Tryz.ntmps32
            go_wp2_with fail
            refine (AB _ Sx).calls.mono ?_
            rintro e _ ⟨rfl, z1, rfl⟩
            go_wp2_with fail
            refine (BG _ Sx).calls.mono ?_
            rintro e _ ⟨rfl, z2, rfl⟩
            go_wp2_with fail
            go_returns
            exact ⟨_, rfl, rfl, HW.out.of Sx, Beyond.of Sx⟩
          · rw [if_neg (by decide)] at hres
            by_cases e6 : 40 ≤ x.L.length
            · rw [if_pos e6] at hres
              subst hres
              clear h hdi hlive e1 e2 e3 e4 hbg0 hdr0 hLl DN hq d0 f0 hO2
              obtain ⟨⟨sA, sc, cals, sB, sd, R, most⟩, A, c, L, gA, gc, bg, pA, pc, pd, dA, dc, dr⟩ := x
              simp only at k3 k4 k6 hi hdl hn hL hbl hj e6
              have e7 : (40 : Int) ≤ (L.length : Int) := by omega
              clear e6
              go_enter Tryz.func32, Tryz.ntmps32
              go_wp2_with fail
              refine (AB _ Sx).calls.mono ?_
              rintro e _ ⟨rfl, z1, rfl⟩
              go_wp2_with fail
              refine (BG _ Sx).calls.mono ?_
              rintro e _ ⟨rfl, z2, rfl⟩
              go_wp2_with fail
              go_returns
              exact ⟨_, rfl, rfl, HW.out.of Sx, Beyond.of Sx⟩
            · rw [if_neg e6] at hres
              subst hres
              have hiL : i < x.L.length := by omega
              obtain ⟨qj, hqj, hqjb, hliveJ⟩ := h.jobs.live encJ_len (by omega)
              have hO3 := hliveJ.row.there
              have j0 := hliveJ.row.j0 i hiL
              have j1 := hliveJ.row.j1 i hiL
              have j2 := hliveJ.row.j2 i hiL
              have j3 := hliveJ.row.j3 i hiL
              have j4 := hliveJ.row.j4 i hiL
              have j5 := hliveJ.row.j5 i hiL
              simp only [Nat.zero_add] at j0 j1 j2 j3 j4 j5
              have hji := h.jobsI _ (List.getElem_mem hiL)
              have hja : jobAt (erSt x).L i = erJ x.L[i] := by
                show jobAt (erL x.L) i = _
                rw [jobAt_er, jobAt_at hiL]
              rw [hja]
              have CN := fun W (hW : SinceOf w W) => cloneN_any x.L[i].A x.L[i].c x.L[i].ms W ((hji.1.isRow encN_len).of hW) (by have := hji.2; omega)
              obtain ⟨i0, ii, iz0, iz1, iz2⟩ := info_parts infoJob
              obtain ⟨b0i, bi, bz0, bz1, bz2⟩ := info_parts infoBool
              have HI := Lib.hid (And.intro ii (And.intro iz0 (And.intro iz1 iz2)))
              have BI := Lib.hid (And.intro bi (And.intro bz0 (And.intro bz1 bz2)))
              have hjb := h.jobs.below
              have hdb := h.dr.below
              clear h hdi hlive hliveJ e1 e2 e3 e4 hbg0 hdr0 hLl DN hq d0 f0 hO2 hja ii iz0 iz1 iz2 bi bz0 bz1 bz2
              obtain ⟨⟨sA, sc, cals, sB, sd, R, most⟩, A, c, L, gA, gc, bg, pA, pc, pd, dA, dc, dr⟩ := x
              simp only at k3 k4 k6 hi hdl hn hL hbl hj e6 hiL hqj j0 j1 j2 j3 j4 j5 hji CN hjb hdb
              subst hqj
              have hlm := hji.2
              obtain ⟨jj, hjj⟩ : ∃ jj, jj = L[i] := ⟨_, rfl⟩
              rw [← hjj] at j0 j1 j2 j3 j4 j5 hlm CN ⊢
              obtain ⟨jA, jc, ms, du, cl, re, de, od⟩ := jj
              simp only at j0 j1 j2 j3 j4 j5 hlm CN
              have HJJ := Lib.hid hjj
              have e7 : ¬ (40 : Int) ≤ (L.length : Int) := by omega
              clear hji hjj
              go_enter Tryz.func32, Tryz.ntmps32
              go_wp2_with fail
              refine (AB _ Sx).calls.mono ?_
              rintro e _ ⟨rfl, z1, rfl⟩
              go_wp2_with fail
              refine (BG _ Sx).calls.mono ?_
              rintro e _ ⟨rfl, z2, rfl⟩
              go_wp2_with fail
              go_big_region
              go_wp2_with fail
              refine (CN _ Sx).mono ?_
              rintro e _ ⟨A1, c1, rfl, hA1, ⟨z3, rfl⟩⟩
              go_wp2_with fail
              have hz1 := z1.size
              have hz2 := z2.size
              have hz3 := z3.size
              (try simp at hz1)
              (try simp at hz2)
              (try simp at hz3)
              obtain ⟨tb, htb⟩ : ∃ tb, tb = z2.wd.heap.size := ⟨_, rfl⟩
              rw [← htb]
              obtain ⟨V, hV⟩ : ∃ V, V = z3.wd.setCell ⟨tb, 0, none⟩ (.slice A1 ms.length c1) := ⟨_, rfl⟩
              rw [← hV]
              have hVs : SinceOf w V := by rw [hV]; (repeat (with_reducible first | exact Sr _ | assumption | refine Sa ?_ _ | refine Sd ?_ | refine Sn ?_ _ | refine Se ?_ _ | refine Sf ?_ _ | refine Sc ?_ (by first | exact Nat.le_refl _ | (simp; done) | omega | (simp; omega)) _))
              have hCV := HW.out.of hVs
              have v0 : V.cell? ⟨tb, 0, none⟩ = some (.slice A1 ms.length c1) := by rw [hV, htb]; simp [go_sem]
              have v1 : V.cell? ⟨tb, 1, none⟩ = some (.int .i64 du) := by rw [hV, htb]; simp [go_sem]
              have v2 : V.cell? ⟨tb, 2, none⟩ = some (.int .i64 cl) := by rw [hV, htb]; simp [go_sem]
              have v3 : V.cell? ⟨tb, 3, none⟩ = some (.int .i64 re) := by rw [hV, htb]; simp [go_sem]
              have v4 : V.cell? ⟨tb, 4, none⟩ = some (.int .i64 de) := by rw [hV, htb]; simp [go_sem]
              have v5 : V.cell? ⟨tb, 5, none⟩ = some (.int .i64 od) := by rw [hV, htb]; simp [go_sem]
              have hzV : tb < V.heap.size := by rw [hV, htb]; simp; omega
              have hbV : b0 ≤ V.heap.size := by rw [hV]; simp; omega
              have hqjl : qj < V.heap.size := by have := (hjb qj rfl).2; rw [hV]; simp; omega
              have hdrb : dr.length ≤ 1000000 := by omega
              have HDL := Lib.hid hdl
              clear hdl
              have hOtV : Nonempty (Old V tb) := ⟨⟨hzV⟩⟩
              have hOgV := hCV.old
              have g3 := hCV.c3
              have g6 := hCV.c6
              have g4 := hCV.c4
              simp only at g3 g6
              have hms1 : Owns encN 1 b0 3 V A1 c1 ms := by
                rw [hV]
                refine (hA1.setNe (fun b hb e => ?_)).base_le ?_
                · have := (hA1.below b hb).1
                  simp at this
                  omega
                · simp; omega
              have hnt : some tb ≠ blockOf (some ⟨qj, 0, none⟩) := fun e => by
                have := (hjb qj rfl).2
                simp [blockOf] at e
                omega
              have hnt2 : some tb ≠ blockOf dA := fun e => by
                have := (hdb tb e.symm).2
                omega
              have HC := Lib.hid hCV
              have HB := Lib.hid (show Beyond b0 w V from Beyond.of hVs)
              have HJ := Lib.hid (And.intro hms1 (And.intro hlm (show ∀ (Ax : Option Addr) (cx : Nat) (Dx : Option Addr) (ex : Nat), erSt ⟨⟨sA, sc, cals, sB, sd, R, most⟩, Ax, cx, L ++ [⟨A1, c1, ms, du, cl, re, de, od⟩], gA, gc, bg, pA, pc, pd, Dx, ex, dr ++ [false]⟩ = ⟨erS ⟨sA, sc, cals, sB, sd, R, most⟩, erL L ++ [erJ ⟨jA, jc, ms, du, cl, re, de, od⟩], bg, pd, dr ++ [false]⟩ from fun Ax cx Dx ex => by unfold erSt erL; simp only [List.map_append]; rfl)))
              have HVV := Lib.hid (And.intro hV htb)
              clear hV htb hCV hms1 hVs hA1 hjb hdb j0 j1 j2 j3 j4 j5 k3 k6
              refine regionL [20, 1, 21, 22, 23, 24] (S := (fun w' => w'.cell? ⟨g, 3, none⟩ = some (.slice (some ⟨qj, 0, none⟩) L.length c) ∧ w'.cell? ⟨g, 6, none⟩ = some (.slice dA dr.length dc) ∧ w'.cell? ⟨tb, 0, none⟩ = some (.slice A1 ms.length c1) ∧ w'.cell? ⟨tb, 1, none⟩ = some (.int .i64 du) ∧ w'.cell? ⟨tb, 2, none⟩ = some (.int .i64 cl) ∧ w'.cell? ⟨tb, 3, none⟩ = some (.int .i64 re) ∧ w'.cell? ⟨tb, 4, none⟩ = some (.int .i64 de) ∧ w'.cell? ⟨tb, 5, none⟩ = some (.int .i64 od))) (by kernel_rfl) ?_ (fun hHeld0 => ?_)
              · simp [go_sem, *]
              refine takeW (i := 1) (d := some 81) (v := ?_) rfl rfl (by kernel_rfl) (by kernel_rfl) (by kernel_rfl) (by rfl) (fun _ _ _ h => h) (Or.inl ⟨by rfl, ?_⟩) ?_
              rotate_left 1
              · (intro w hSw; go_simp) <;> (with_reducible rfl)
              (try simp only [Act.put, List.setIfInBounds_toArray, List.set_cons_zero, List.set_cons_succ])
              refine tK (i := 0) (d := some 80) (v := ?_) rfl rfl (fun _ _ _ h => h) (Or.inl ⟨by rfl, ?_⟩) (by assumption) ?_
              rotate_left 1
              · (intro w hSw; (try dsimp only at hSw); go_simp) <;> (with_reducible rfl)
              (try simp only [Act.put, List.setIfInBounds_toArray, List.set_cons_zero, List.set_cons_succ])
              refine tK (i := 2) (d := some 82) (v := ?_) rfl rfl (fun _ _ _ h => h) (Or.inl ⟨by rfl, ?_⟩) (by assumption) ?_
              rotate_left 1
              · (intro w hSw; (try dsimp only at hSw); go_simp) <;> (with_reducible rfl)
              (try simp only [Act.put, List.setIfInBounds_toArray, List.set_cons_zero, List.set_cons_succ])
              refine tK (i := 3) (d := some 83) (v := ?_) rfl rfl (fun _ _ _ h => h) (Or.inl ⟨by rfl, ?_⟩) (by assumption) ?_
              rotate_left 1
              · (intro w hSw; (try dsimp only at hSw); go_simp) <;> (with_reducible rfl)
              (try simp only [Act.put, List.setIfInBounds_toArray, List.set_cons_zero, List.set_cons_succ])
              refine tK (i := 4) (d := some 84) (v := ?_) rfl rfl (fun _ _ _ h => h) (Or.inl ⟨by rfl, ?_⟩) (by assumption) ?_
              rotate_left 1
              · (intro w hSw; (try dsimp only at hSw); go_simp) <;> (with_reducible rfl)
              (try simp only [Act.put, List.setIfInBounds_toArray, List.set_cons_zero, List.set_cons_succ])
              refine tK (i := 5) (d := some 85) (v := ?_) rfl rfl (fun _ _ _ h => h) (Or.inl ⟨by rfl, ?_⟩) (by assumption) ?_
              rotate_left 1
              · (intro w hSw; (try dsimp only at hSw); go_simp) <;> (with_reducible rfl)
              (try simp only [Act.put, List.setIfInBounds_toArray, List.set_cons_zero, List.set_cons_succ])
              refine tK (i := 6) (d := some 86) (v := ?_) rfl rfl (fun _ _ _ h => h) (Or.inl ⟨by rfl, ?_⟩) (by assumption) ?_
              rotate_left 1
              · (intro w hSw; (try dsimp only at hSw); go_simp) <;> (with_reducible rfl)
              (try simp only [Act.put, List.setIfInBounds_toArray, List.set_cons_zero, List.set_cons_succ])
              refine tK (i := 7) (d := some 87) (v := ?_) rfl rfl (fun _ _ _ h => h) (Or.inl ⟨by rfl, ?_⟩) (by assumption) ?_
              rotate_left 1
              · (intro w hSw; (try dsimp only at hSw); go_simp) <;> (with_reducible rfl)
              (try simp only [Act.put, List.setIfInBounds_toArray, List.set_cons_zero, List.set_cons_succ])
              refine tK (i := 10) (d := some 90) (v := ?_) rfl rfl (fun _ _ _ h => h) (Or.inl ⟨by rfl, ?_⟩) (by assumption) ?_
              rotate_left 1
              · (intro w hSw; (try dsimp only at hSw); go_simp) <;> (with_reducible rfl)
              (try simp only [Act.put, List.setIfInBounds_toArray, List.set_cons_zero, List.set_cons_succ])
              refine tK (i := 11) (d := some 91) (v := ?_) rfl rfl (fun _ _ _ h => h) (Or.inl ⟨by rfl, ?_⟩) (by assumption) ?_
              rotate_left 1
              · (intro w hSw; (try dsimp only at hSw); go_simp) <;> (with_reducible rfl)
              (try simp only [Act.put, List.setIfInBounds_toArray, List.set_cons_zero, List.set_cons_succ])
              refine tK (i := 12) (d := some 92) (v := ?_) rfl rfl (fun _ _ _ h => h) (Or.inl ⟨by rfl, ?_⟩) (by assumption) ?_
              rotate_left 1
              · (intro w hSw; (try dsimp only at hSw); go_simp) <;> (with_reducible rfl)
              (try simp only [Act.put, List.setIfInBounds_toArray, List.set_cons_zero, List.set_cons_succ])
              refine tK (i := 13) (d := some 93) (v := ?_) rfl rfl (fun _ _ _ h => h) (Or.inl ⟨by rfl, ?_⟩) (by assumption) ?_
              rotate_left 1
              · (intro w hSw; (try dsimp only at hSw); go_simp) <;> (with_reducible rfl)
              (try simp only [Act.put, List.setIfInBounds_toArray, List.set_cons_zero, List.set_cons_succ])
              refine tK (i := 14) (d := some 94) (v := ?_) rfl rfl (fun _ _ _ h => h) (Or.inl ⟨by rfl, ?_⟩) (by assumption) ?_
              rotate_left 1
              · (intro w hSw; (try dsimp only at hSw); go_simp) <;> (with_reducible rfl)
              (try simp only [Act.put, List.setIfInBounds_toArray, List.set_cons_zero, List.set_cons_succ])
              refine stepL2 (i := 8) (j := 15) (by kernel_rfl) rfl rfl (fun K' hK => ?_) (fun K' hK => ?_)
              · go_simp
                refine hK.out _ _ ?_ (fun hHeld1 => ?_)
                · simp [go_sem, *]
                clear hK K' hHeld0
                refine stepL2 (i := 9) (j := 15) (by kernel_rfl) rfl rfl (fun K' hK => ?_) (fun K' hK => ?_)
                · have rJ : IsRow encJ 6 (V.drew.alloc (.cells #[.slice A1 ms.length c1, .int .i64 du, .int .i64 cl, .int .i64 re, .int .i64 de, .int .i64 od] 85)) (some ⟨(V.drew).heap.size, 0, none⟩) 1 [(⟨A1, c1, ms, du, cl, re, de, od⟩ : JobR)] := (rowJ_at (V.drew) _ ⟨A1, c1, ms, du, cl, re, de, od⟩ 85 rfl).of Sx
                  (try simp only [World.size_alloc, World.size_drew] at rJ)
                  refine step_append_row (by rfl) (.tmp 86) (.tmp 88) 38 (by rfl) encJ_len (by omega) encJ_one i0 _ 64 Tryz.underlying38 HI.out.1 HI.out.2.1 HI.out.2.2.1 HI.out.2.2.2 rfl (l := L) (A := some ⟨qj, 0, none⟩) (c := c) (base := b0) rfl (HC.out.jobs.of Sx) (m := [⟨A1, c1, ms, du, cl, re, de, od⟩]) (by rfl) rJ (by unfold maxLen; simp; omega) (by simp; omega) (by first | omega | (simp; omega)) ?_
                  intro A3 c3 w4 ho4 hgr4 hb4
                  have hs4a : ChAt (V.drew.alloc (.cells #[.slice A1 ms.length c1, .int .i64 du, .int .i64 cl, .int .i64 re, .int .i64 de, .int .i64 od] 85)) b0 g now ⟨⟨sA, sc, cals, sB, sd, R, most⟩, some ⟨qj, 0, none⟩, c, L, gA, gc, bg, pA, pc, pd, dA, dc, dr⟩ := HC.out.of Sx
                  have SBj := SameBut.grown (es := [85]) hgr4 (fun g5 hg5 => by obtain ⟨cur, hc⟩ := hs4a.jobs.typed g5 hg5; exact ⟨cur, _, _, List.mem_singleton.2 rfl, hc⟩)
                  have BYj := Beyond.grown (b0 := b0) hgr4 (fun q hq => ⟨(hs4a.jobs.below q hq).1, by obtain ⟨cur, hc⟩ := hs4a.jobs.typed q hq; exact ⟨cur, _, by simp [chT], hc⟩⟩)
                  have hgc4 := SBj g _ _ _ (by simp) hs4a.cell
                  have hO4 : Nonempty (Old w4 g) := ⟨⟨heap_lt hgc4⟩⟩
                  have hz4 := hgr4.size
                  (try simp at hz4)
                  have hOt4 : Nonempty (Old w4 tb) := ⟨⟨by omega⟩⟩
                  have hD4 := hs4a.dr.sameBut (by simp) SBj
                  refine hK.out _ _ ⟨cell_of (i := 3) hgc4 rfl, cell_of (i := 6) hgc4 rfl, hgr4.cell hHeld1.2.2.1 hnt, hgr4.cell hHeld1.2.2.2.1 hnt, hgr4.cell hHeld1.2.2.2.2.1 hnt, hgr4.cell hHeld1.2.2.2.2.2.1 hnt, hgr4.cell hHeld1.2.2.2.2.2.2.1 hnt, hgr4.cell hHeld1.2.2.2.2.2.2.2 hnt⟩ (fun hHeld2 => ?_)
                  clear hK K' hHeld1
                  refine stepL (i := 15) (by kernel_rfl) rfl (fun K' hK => ?_)
                  go_simp
                  refine hK.out _ _ ?_ (fun hHeld3 => ?_)
                  · simp [go_sem, *]
                  clear hK K' hHeld2
                  refine stepL (i := 16) (by kernel_rfl) rfl (fun K' hK => ?_)
                  have rB : IsRow encB 1 (w4.alloc (.cells #[.bool false] 4)) (some ⟨(w4).heap.size, 0, none⟩) 1 [false] := rowB_lit (w4) _ rfl
                  (try simp only [World.size_alloc, World.size_drew] at rB)
                  have hD5 : Owns encB 1 b0 4 (w4.alloc (.cells #[.bool false] 4)) dA dc dr := hD4.of Sx
                  refine step_append_row (by rfl) (.tmp 94) (.tmp 95) 40 (by rfl) encB_len (by omega) encB_one1 b0i _ 1 Tryz.underlying40 BI.out.1 BI.out.2.1 BI.out.2.2.1 BI.out.2.2.2 rfl (l := dr) (A := dA) (c := dc) (base := b0) rfl hD5 (m := [false]) (by rfl) rB (by unfold maxLen; simp; omega) (by simp; omega) (by first | omega | (simp; omega)) ?_
                  intro D3 d3 w5 ho5 hgr5 hb5
                  have SBb := SameBut.grown (es := [4]) hgr5 (fun g5 hg5 => by obtain ⟨cur, hc⟩ := hD5.typed g5 hg5; exact ⟨cur, _, _, List.mem_singleton.2 rfl, hc⟩)
                  have BYb := Beyond.grown (b0 := b0) hgr5 (fun q hq => ⟨(hD5.below q hq).1, by obtain ⟨cur, hc⟩ := hD5.typed q hq; exact ⟨cur, _, by simp [chT], hc⟩⟩)
                  have sJ : SameBut [85] V w4 := (SameBut.since Sx).trans SBj
                  have sB : SameBut [4] w4 w5 := (SameBut.since Sx).trans SBb
                  have bY : Beyond b0 V w5 := (((Beyond.of Sx).trans BYj).trans (Beyond.of Sx)).trans BYb
                  have ho4' := ho4.sameBut (by simp) sB
                  have hgc5 := sB g _ _ _ (by simp) hgc4
                  have hO5 : Nonempty (Old w5 g) := ⟨⟨heap_lt hgc5⟩⟩
                  have hz5 := hgr5.size
                  (try simp at hz5)
                  have hOt5 : Nonempty (Old w5 tb) := ⟨⟨by omega⟩⟩
                  have fg3 := free_of hgc5 3
                  have fg6 := free_of hgc5 6
                  have cg3 := cell_of (i := 3) hgc5 rfl
                  have cg6 := cell_of (i := 6) hgc5 rfl
                  refine hK.out _ _ ⟨cg3, cg6, hgr5.cell hHeld3.2.2.1 hnt2, hgr5.cell hHeld3.2.2.2.1 hnt2, hgr5.cell hHeld3.2.2.2.2.1 hnt2, hgr5.cell hHeld3.2.2.2.2.2.1 hnt2, hgr5.cell hHeld3.2.2.2.2.2.2.1 hnt2, hgr5.cell hHeld3.2.2.2.2.2.2.2 hnt2⟩ (fun hHeld4 => ?_)
                  clear hK K' hHeld3
                  refine tK (i := 17) (d := some 97) (v := ?_) rfl rfl (fun _ _ _ h => h) (Or.inl ⟨by rfl, ?_⟩) (by assumption) ?_
                  rotate_left 1
                  · (intro w hSw; (try dsimp only at hSw); go_simp) <;> (with_reducible rfl)
                  (try simp only [Act.put, List.setIfInBounds_toArray, List.set_cons_zero, List.set_cons_succ])
                  refine tK (i := 18) (d := some 98) (v := ?_) rfl rfl (fun _ _ _ h => h) (Or.inl ⟨by rfl, ?_⟩) (by assumption) ?_
                  rotate_left 1
                  · (intro w hSw; (try dsimp only at hSw); go_simp) <;> (with_reducible rfl)
                  (try simp only [Act.put, List.setIfInBounds_toArray, List.set_cons_zero, List.set_cons_succ])
                  refine tK (i := 19) (d := some 99) (v := ?_) rfl rfl (fun _ _ _ h => h) (Or.inl ⟨by rfl, ?_⟩) (by assumption) ?_
                  rotate_left 1
                  · (intro w hSw; (try dsimp only at hSw); go_simp) <;> (with_reducible rfl)
                  (try simp only [Act.put, List.setIfInBounds_toArray, List.set_cons_zero, List.set_cons_succ])
                  refine lastL (i := 20) (by kernel_rfl) (by rfl) rfl (fun K' hK => ?_)
                  go_simp
                  refine hK.out _ _ ?_
                  clear hK K'
                  refine lastL (i := 21) (by kernel_rfl) (by rfl) rfl (fun K' hK => ?_)
                  go_simp
                  refine hK.out _ _ ?_
                  clear hK K'
                  refine lastL (i := 22) (by kernel_rfl) (by rfl) rfl (fun K' hK => ?_)
                  go_simp
                  refine hK.out _ _ ?_
                  clear hK K'
                  refine lastL (i := 23) (by kernel_rfl) (by rfl) rfl (fun K' hK => ?_)
                  go_simp
                  refine hK.out _ _ ?_
                  clear hK K'
                  refine lastL (i := 24) (by kernel_rfl) (by rfl) rfl (fun K' hK => ?_)
                  go_simp
                  refine hK.out _ _ ?_
                  refine doneL (by kernel_rfl) ?_ _
                  go_wp2_with fail
                  go_returns
                  have hP := HC.out.pushTwo (SameBut.trans (sJ.mono (by simp)) (sB.mono (by simp))) (j := ⟨A1, c1, ms, du, cl, re, de, od⟩) HJ.out.1 HJ.out.2.1 ho4' ho5
                  simp only [List.length_append, List.length_singleton] at hP
                  refine ⟨rfl, _, HJ.out.2.2 _ _ _ _, hP, ((HB.out.trans bY).trans (Beyond.set HC.out.base (by simp [chT]) hgc5)).trans (Beyond.set HC.out.base (by simp [chT]) (set_block hgc5 _))⟩
                · go_simp
                  refine hK.out _ _ ?_ (fun hHeld2 => ?_)
                  · simp [go_sem, *]
                  clear hK K' hHeld1
                  refine stepL (i := 9) (by kernel_rfl) rfl (fun K' hK => ?_)
                  have rJ : IsRow encJ 6 ((V.drew.alloc (.cells #[.slice A1 ms.length c1, .int .i64 du, .int .i64 cl, .int .i64 re, .int .i64 de, .int .i64 od] 85)).alloc (.cells #[.bool false] 4)) (some ⟨(V.drew).heap.size, 0, none⟩) 1 [(⟨A1, c1, ms, du, cl, re, de, od⟩ : JobR)] := (rowJ_at (V.drew) _ ⟨A1, c1, ms, du, cl, re, de, od⟩ 85 rfl).of Sx
                  (try simp only [World.size_alloc, World.size_drew] at rJ)
                  refine step_append_row (by rfl) (.tmp 86) (.tmp 88) 38 (by rfl) encJ_len (by omega) encJ_one i0 _ 64 Tryz.underlying38 HI.out.1 HI.out.2.1 HI.out.2.2.1 HI.out.2.2.2 rfl (l := L) (A := some ⟨qj, 0, none⟩) (c := c) (base := b0) rfl (HC.out.jobs.of Sx) (m := [⟨A1, c1, ms, du, cl, re, de, od⟩]) (by rfl) rJ (by unfold maxLen; simp; omega) (by simp; omega) (by first | omega | (simp; omega)) ?_
                  intro A3 c3 w4 ho4 hgr4 hb4
                  have hs4a : ChAt ((V.drew.alloc (.cells #[.slice A1 ms.length c1, .int .i64 du, .int .i64 cl, .int .i64 re, .int .i64 de, .int .i64 od] 85)).alloc (.cells #[.bool false] 4)) b0 g now ⟨⟨sA, sc, cals, sB, sd, R, most⟩, some ⟨qj, 0, none⟩, c, L, gA, gc, bg, pA, pc, pd, dA, dc, dr⟩ := HC.out.of Sx
                  have SBj := SameBut.grown (es := [85]) hgr4 (fun g5 hg5 => by obtain ⟨cur, hc⟩ := hs4a.jobs.typed g5 hg5; exact ⟨cur, _, _, List.mem_singleton.2 rfl, hc⟩)
                  have BYj := Beyond.grown (b0 := b0) hgr4 (fun q hq => ⟨(hs4a.jobs.below q hq).1, by obtain ⟨cur, hc⟩ := hs4a.jobs.typed q hq; exact ⟨cur, _, by simp [chT], hc⟩⟩)
                  have hgc4 := SBj g _ _ _ (by simp) hs4a.cell
                  have hO4 : Nonempty (Old w4 g) := ⟨⟨heap_lt hgc4⟩⟩
                  have hz4 := hgr4.size
                  (try simp at hz4)
                  have hOt4 : Nonempty (Old w4 tb) := ⟨⟨by omega⟩⟩
                  have hD4 := hs4a.dr.sameBut (by simp) SBj
                  refine hK.out _ _ ⟨cell_of (i := 3) hgc4 rfl, cell_of (i := 6) hgc4 rfl, hgr4.cell hHeld2.2.2.1 hnt, hgr4.cell hHeld2.2.2.2.1 hnt, hgr4.cell hHeld2.2.2.2.2.1 hnt, hgr4.cell hHeld2.2.2.2.2.2.1 hnt, hgr4.cell hHeld2.2.2.2.2.2.2.1 hnt, hgr4.cell hHeld2.2.2.2.2.2.2.2 hnt⟩ (fun hHeld3 => ?_)
                  clear hK K' hHeld2
                  refine stepL (i := 16) (by kernel_rfl) rfl (fun K' hK => ?_)
                  have rB : IsRow encB 1 w4 (some ⟨((V.drew.alloc (.cells #[.slice A1 ms.length c1, .int .i64 du, .int .i64 cl, .int .i64 re, .int .i64 de, .int .i64 od] 85))).heap.size, 0, none⟩) 1 [false] := ((rowB_lit ((V.drew.alloc (.cells #[.slice A1 ms.length c1, .int .i64 du, .int .i64 cl, .int .i64 re, .int .i64 de, .int .i64 od] 85))) _ rfl).of (show SinceOf ((V.drew.alloc (.cells #[.slice A1 ms.length c1, .int .i64 du, .int .i64 cl, .int .i64 re, .int .i64 de, .int .i64 od] 85)).alloc (.cells #[.bool false] 4)) ((V.drew.alloc (.cells #[.slice A1 ms.length c1, .int .i64 du, .int .i64 cl, .int .i64 re, .int .i64 de, .int .i64 od] 85)).alloc (.cells #[.bool false] 4)) from Sx)).grownN hgr4 (fun b hb e => by simp [blockOf] at hb e; omega)
                  (try simp only [World.size_alloc, World.size_drew] at rB)
                  have hD5 : Owns encB 1 b0 4 w4 dA dc dr := hD4.of Sx
                  refine step_append_row (by rfl) (.tmp 94) (.tmp 95) 40 (by rfl) encB_len (by omega) encB_one1 b0i _ 1 Tryz.underlying40 BI.out.1 BI.out.2.1 BI.out.2.2.1 BI.out.2.2.2 rfl (l := dr) (A := dA) (c := dc) (base := b0) rfl hD5 (m := [false]) (by rfl) rB (by unfold maxLen; simp; omega) (by simp; omega) (by first | omega | (simp; omega)) ?_
                  intro D3 d3 w5 ho5 hgr5 hb5
                  have SBb := SameBut.grown (es := [4]) hgr5 (fun g5 hg5 => by obtain ⟨cur, hc⟩ := hD5.typed g5 hg5; exact ⟨cur, _, _, List.mem_singleton.2 rfl, hc⟩)
                  have BYb := Beyond.grown (b0 := b0) hgr5 (fun q hq => ⟨(hD5.below q hq).1, by obtain ⟨cur, hc⟩ := hD5.typed q hq; exact ⟨cur, _, by simp [chT], hc⟩⟩)
                  have sJ : SameBut [85] V w4 := (SameBut.since Sx).trans SBj
                  have sB : SameBut [4] w4 w5 := (SameBut.since Sx).trans SBb
                  have bY : Beyond b0 V w5 := (((Beyond.of Sx).trans BYj).trans (Beyond.of Sx)).trans BYb
                  have ho4' := ho4.sameBut (by simp) sB
                  have hgc5 := sB g _ _ _ (by simp) hgc4
                  have hO5 : Nonempty (Old w5 g) := ⟨⟨heap_lt hgc5⟩⟩
                  have hz5 := hgr5.size
                  (try simp at hz5)
                  have hOt5 : Nonempty (Old w5 tb) := ⟨⟨by omega⟩⟩
                  have fg3 := free_of hgc5 3
                  have fg6 := free_of hgc5 6
                  have cg3 := cell_of (i := 3) hgc5 rfl
                  have cg6 := cell_of (i := 6) hgc5 rfl
                  refine hK.out _ _ ⟨cg3, cg6, hgr5.cell hHeld3.2.2.1 hnt2, hgr5.cell hHeld3.2.2.2.1 hnt2, hgr5.cell hHeld3.2.2.2.2.1 hnt2, hgr5.cell hHeld3.2.2.2.2.2.1 hnt2, hgr5.cell hHeld3.2.2.2.2.2.2.1 hnt2, hgr5.cell hHeld3.2.2.2.2.2.2.2 hnt2⟩ (fun hHeld4 => ?_)
                  clear hK K' hHeld3
                  refine tK (i := 17) (d := some 97) (v := ?_) rfl rfl (fun _ _ _ h => h) (Or.inl ⟨by rfl, ?_⟩) (by assumption) ?_
                  rotate_left 1
                  · (intro w hSw; (try dsimp only at hSw); go_simp) <;> (with_reducible rfl)
                  (try simp only [Act.put, List.setIfInBounds_toArray, List.set_cons_zero, List.set_cons_succ])
                  refine tK (i := 18) (d := some 98) (v := ?_) rfl rfl (fun _ _ _ h => h) (Or.inl ⟨by rfl, ?_⟩) (by assumption) ?_
                  rotate_left 1
                  · (intro w hSw; (try dsimp only at hSw); go_simp) <;> (with_reducible rfl)
                  (try simp only [Act.put, List.setIfInBounds_toArray, List.set_cons_zero, List.set_cons_succ])
                  refine tK (i := 19) (d := some 99) (v := ?_) rfl rfl (fun _ _ _ h => h) (Or.inl ⟨by rfl, ?_⟩) (by assumption) ?_
                  rotate_left 1
                  · (intro w hSw; (try dsimp only at hSw); go_simp) <;> (with_reducible rfl)
                  (try simp only [Act.put, List.setIfInBounds_toArray, List.set_cons_zero, List.set_cons_succ])
                  refine lastL (i := 20) (by kernel_rfl) (by rfl) rfl (fun K' hK => ?_)
                  go_simp
                  refine hK.out _ _ ?_
                  clear hK K'
                  refine lastL (i := 21) (by kernel_rfl) (by rfl) rfl (fun K' hK => ?_)
                  go_simp
                  refine hK.out _ _ ?_
                  clear hK K'
                  refine lastL (i := 22) (by kernel_rfl) (by rfl) rfl (fun K' hK => ?_)
                  go_simp
                  refine hK.out _ _ ?_
                  clear hK K'
                  refine lastL (i := 23) (by kernel_rfl) (by rfl) rfl (fun K' hK => ?_)
                  go_simp
                  refine hK.out _ _ ?_
                  clear hK K'
                  refine lastL (i := 24) (by kernel_rfl) (by rfl) rfl (fun K' hK => ?_)
                  go_simp
                  refine hK.out _ _ ?_
                  refine doneL (by kernel_rfl) ?_ _
                  go_wp2_with fail
                  go_returns
                  have hP := HC.out.pushTwo (SameBut.trans (sJ.mono (by simp)) (sB.mono (by simp))) (j := ⟨A1, c1, ms, du, cl, re, de, od⟩) HJ.out.1 HJ.out.2.1 ho4' ho5
                  simp only [List.length_append, List.length_singleton] at hP
                  refine ⟨rfl, _, HJ.out.2.2 _ _ _ _, hP, ((HB.out.trans bY).trans (Beyond.set HC.out.base (by simp [chT]) hgc5)).trans (Beyond.set HC.out.base (by simp [chT]) (set_block hgc5 _))⟩
              · go_simp
                refine hK.out _ _ ?_ (fun hHeld1 => ?_)
                · simp [go_sem, *]
                clear hK K' hHeld0
                refine stepL (i := 8) (by kernel_rfl) rfl (fun K' hK => ?_)
                go_simp
                refine hK.out _ _ ?_ (fun hHeld2 => ?_)
                · simp [go_sem, *]
                clear hK K' hHeld1
                refine stepL (i := 9) (by kernel_rfl) rfl (fun K' hK => ?_)
                have rJ : IsRow encJ 6 ((V.drew.alloc (.cells #[.bool false] 4)).alloc (.cells #[.slice A1 ms.length c1, .int .i64 du, .int .i64 cl, .int .i64 re, .int .i64 de, .int .i64 od] 85)) (some ⟨(V.drew.alloc (.cells #[.bool false] 4)).heap.size, 0, none⟩) 1 [(⟨A1, c1, ms, du, cl, re, de, od⟩ : JobR)] := (rowJ_at (V.drew.alloc (.cells #[.bool false] 4)) _ ⟨A1, c1, ms, du, cl, re, de, od⟩ 85 rfl).of Sx
                (try simp only [World.size_alloc, World.size_drew] at rJ)
                refine step_append_row (by rfl) (.tmp 86) (.tmp 88) 38 (by rfl) encJ_len (by omega) encJ_one i0 _ 64 Tryz.underlying38 HI.out.1 HI.out.2.1 HI.out.2.2.1 HI.out.2.2.2 rfl (l := L) (A := some ⟨qj, 0, none⟩) (c := c) (base := b0) rfl (HC.out.jobs.of Sx) (m := [⟨A1, c1, ms, du, cl, re, de, od⟩]) (by rfl) rJ (by unfold maxLen; simp; omega) (by simp; omega) (by first | omega | (simp; omega)) ?_
                intro A3 c3 w4 ho4 hgr4 hb4
                have hs4a : ChAt ((V.drew.alloc (.cells #[.bool false] 4)).alloc (.cells #[.slice A1 ms.length c1, .int .i64 du, .int .i64 cl, .int .i64 re, .int .i64 de, .int .i64 od] 85)) b0 g now ⟨⟨sA, sc, cals, sB, sd, R, most⟩, some ⟨qj, 0, none⟩, c, L, gA, gc, bg, pA, pc, pd, dA, dc, dr⟩ := HC.out.of Sx
                have SBj := SameBut.grown (es := [85]) hgr4 (fun g5 hg5 => by obtain ⟨cur, hc⟩ := hs4a.jobs.typed g5 hg5; exact ⟨cur, _, _, List.mem_singleton.2 rfl, hc⟩)
                have BYj := Beyond.grown (b0 := b0) hgr4 (fun q hq => ⟨(hs4a.jobs.below q hq).1, by obtain ⟨cur, hc⟩ := hs4a.jobs.typed q hq; exact ⟨cur, _, by simp [chT], hc⟩⟩)
                have hgc4 := SBj g _ _ _ (by simp) hs4a.cell
                have hO4 : Nonempty (Old w4 g) := ⟨⟨heap_lt hgc4⟩⟩
                have hz4 := hgr4.size
                (try simp at hz4)
                have hOt4 : Nonempty (Old w4 tb) := ⟨⟨by omega⟩⟩
                have hD4 := hs4a.dr.sameBut (by simp) SBj
                refine hK.out _ _ ⟨cell_of (i := 3) hgc4 rfl, cell_of (i := 6) hgc4 rfl, hgr4.cell hHeld2.2.2.1 hnt, hgr4.cell hHeld2.2.2.2.1 hnt, hgr4.cell hHeld2.2.2.2.2.1 hnt, hgr4.cell hHeld2.2.2.2.2.2.1 hnt, hgr4.cell hHeld2.2.2.2.2.2.2.1 hnt, hgr4.cell hHeld2.2.2.2.2.2.2.2 hnt⟩ (fun hHeld3 => ?_)
                clear hK K' hHeld2
                refine stepL (i := 16) (by kernel_rfl) rfl (fun K' hK => ?_)
                have rB : IsRow encB 1 w4 (some ⟨(V.drew).heap.size, 0, none⟩) 1 [false] := ((rowB_lit (V.drew) _ rfl).of (show SinceOf (V.drew.alloc (.cells #[.bool false] 4)) ((V.drew.alloc (.cells #[.bool false] 4)).alloc (.cells #[.slice A1 ms.length c1, .int .i64 du, .int .i64 cl, .int .i64 re, .int .i64 de, .int .i64 od] 85)) from Sx)).grownN hgr4 (fun b hb e => by simp [blockOf] at hb e; omega)
                (try simp only [World.size_alloc, World.size_drew] at rB)
                have hD5 : Owns encB 1 b0 4 w4 dA dc dr := hD4.of Sx
                refine step_append_row (by rfl) (.tmp 94) (.tmp 95) 40 (by rfl) encB_len (by omega) encB_one1 b0i _ 1 Tryz.underlying40 BI.out.1 BI.out.2.1 BI.out.2.2.1 BI.out.2.2.2 rfl (l := dr) (A := dA) (c := dc) (base := b0) rfl hD5 (m := [false]) (by rfl) rB (by unfold maxLen; simp; omega) (by simp; omega) (by first | omega | (simp; omega)) ?_
                intro D3 d3 w5 ho5 hgr5 hb5
                have SBb := SameBut.grown (es := [4]) hgr5 (fun g5 hg5 => by obtain ⟨cur, hc⟩ := hD5.typed g5 hg5; exact ⟨cur, _, _, List.mem_singleton.2 rfl, hc⟩)
                have BYb := Beyond.grown (b0 := b0) hgr5 (fun q hq => ⟨(hD5.below q hq).1, by obtain ⟨cur, hc⟩ := hD5.typed q hq; exact ⟨cur, _, by simp [chT], hc⟩⟩)
                have sJ : SameBut [85] V w4 := (SameBut.since Sx).trans SBj
                have sB : SameBut [4] w4 w5 := (SameBut.since Sx).trans SBb
                have bY : Beyond b0 V w5 := (((Beyond.of Sx).trans BYj).trans (Beyond.of Sx)).trans BYb
                have ho4' := ho4.sameBut (by simp) sB
                have hgc5 := sB g _ _ _ (by simp) hgc4
                have hO5 : Nonempty (Old w5 g) := ⟨⟨heap_lt hgc5⟩⟩
                have hz5 := hgr5.size
                (try simp at hz5)
                have hOt5 : Nonempty (Old w5 tb) := ⟨⟨by omega⟩⟩
                have fg3 := free_of hgc5 3
                have fg6 := free_of hgc5 6
                have cg3 := cell_of (i := 3) hgc5 rfl
                have cg6 := cell_of (i := 6) hgc5 rfl
                refine hK.out _ _ ⟨cg3, cg6, hgr5.cell hHeld3.2.2.1 hnt2, hgr5.cell hHeld3.2.2.2.1 hnt2, hgr5.cell hHeld3.2.2.2.2.1 hnt2, hgr5.cell hHeld3.2.2.2.2.2.1 hnt2, hgr5.cell hHeld3.2.2.2.2.2.2.1 hnt2, hgr5.cell hHeld3.2.2.2.2.2.2.2 hnt2⟩ (fun hHeld4 => ?_)
                clear hK K' hHeld3
                refine tK (i := 17) (d := some 97) (v := ?_) rfl rfl (fun _ _ _ h => h) (Or.inl ⟨by rfl, ?_⟩) (by assumption) ?_
                rotate_left 1
                · (intro w hSw; (try dsimp only at hSw); go_simp) <;> (with_reducible rfl)
                (try simp only [Act.put, List.setIfInBounds_toArray, List.set_cons_zero, List.set_cons_succ])
                refine tK (i := 18) (d := some 98) (v := ?_) rfl rfl (fun _ _ _ h => h) (Or.inl ⟨by rfl, ?_⟩) (by assumption) ?_
                rotate_left 1
                · (intro w hSw; (try dsimp only at hSw); go_simp) <;> (with_reducible rfl)
                (try simp only [Act.put, List.setIfInBounds_toArray, List.set_cons_zero, List.set_cons_succ])
                refine tK (i := 19) (d := some 99) (v := ?_) rfl rfl (fun _ _ _ h => h) (Or.inl ⟨by rfl, ?_⟩) (by assumption) ?_
                rotate_left 1
                · (intro w hSw; (try dsimp only at hSw); go_simp) <;> (with_reducible rfl)
                (try simp only [Act.put, List.setIfInBounds_toArray, List.set_cons_zero, List.set_cons_succ])
                refine lastL (i := 20) (by kernel_rfl) (by rfl) rfl (fun K' hK => ?_)
                go_simp
                refine hK.out _ _ ?_
                clear hK K'
                refine lastL (i := 21) (by kernel_rfl) (by rfl) rfl (fun K' hK => ?_)
                go_simp
                refine hK.out _ _ ?_
                clear hK K'
                refine lastL (i := 22) (by kernel_rfl) (by rfl) rfl (fun K' hK => ?_)
                go_simp
                refine hK.out _ _ ?_
                clear hK K'
                refine lastL (i := 23) (by kernel_rfl) (by rfl) rfl (fun K' hK => ?_)
                go_simp
                refine hK.out _ _ ?_
                clear hK K'
                refine lastL (i := 24) (by kernel_rfl) (by rfl) rfl (fun K' hK => ?_)
                go_simp
                refine hK.out _ _ ?_
                refine doneL (by kernel_rfl) ?_ _
                go_wp2_with fail
                go_returns
                have hP := HC.out.pushTwo (SameBut.trans (sJ.mono (by simp)) (sB.mono (by simp))) (j := ⟨A1, c1, ms, du, cl, re, de, od⟩) HJ.out.1 HJ.out.2.1 ho4' ho5
                simp only [List.length_append, List.length_singleton] at hP
                refine ⟨rfl, _, HJ.out.2.2 _ _ _ _, hP, ((HB.out.trans bY).trans (Beyond.set HC.out.base (by simp [chT]) hgc5)).trans (Beyond.set HC.out.base (by simp [chT]) (set_block hgc5 _))⟩
end Go.Proofs.YtpaojgfmffkodaaGreat
