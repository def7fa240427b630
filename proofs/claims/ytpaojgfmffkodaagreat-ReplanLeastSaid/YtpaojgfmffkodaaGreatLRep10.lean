/- Layer 54: the program's Keep (the walk). -/
import Derived.Test.YtpaojgfmffkodaaGreatLRep6b
namespace Go.Proofs.YtpaojgfmffkodaaGreat
set_option linter.unusedVariables false
set_option linter.unusedSimpArgs false
open Go.RowKit Go.Sort
attribute [local go_sem ↓] Go.wp_at_zero Go.wp_at_succ
set_option maxRecDepth 100000 in
set_option maxHeartbeats 16000000 in
theorem keep_any (x : StR) (B : Option Addr) (d : Nat) (kept : List Int) (w : World) (hx : IsState w x) (hk : IsInts w B d kept) (hkl : kept.length < 1000000) (hdr : x.dr.length = x.L.length) (hL : x.L.length < 20) (hbl : x.bg.length < 1000000) (hpl : x.pd.length < 1000000) :
    Calls Tryz.prog 20 #[stateV x, .slice B kept.length d] w fun e w' => ∃ y : ResM, e = .returned (.tuple #[resV y, .int .i64 (keepV (erSt x) kept).1]) ∧ y.r = (keepV (erSt x) kept).2 ∧ IsRes w' y ∧ FreshR w.heap.size y ∧ SinceOf w w' := by
  obtain ⟨res, hres⟩ : ∃ v, v = keepV (erSt x) kept := ⟨_, rfl⟩
  rw [← hres]
  rw [keepV_er] at hres
  obtain ⟨sx, A, c, L, gA, gc, bg, pA, pc, pd, dA, dc, dr⟩ := x
  simp only at hdr hL hbl hpl hres
  have hrest := fun (B' : Option Addr) (d' : Nat) (l : List SlotR) W (hW : SinceOf w W) (h1 : IsSlots W B' d' l) (h2 : l.length < 1073741824) => rest_any ⟨sx, A, c, L, gA, gc, bg, pA, pc, pd, dA, dc, dr⟩ B' d' l W (hx.of hW) h1 h2 hdr hL
  have hVA := fun (B' : Option Addr) (d' : Nat) (l : List SlotR) W (hW : SinceOf w W) (h1 : IsSlots W B' d' l) (h2 : l.length < 1073741824) (h3 : l.length ≤ d') => valid52_any sx A c L B' d' l W (hx.shop.of hW) (hx.jobs.of hW) h1 (by omega) h3
  have hDI := fun (B' : Option Addr) (d' : Nat) (l : List SlotR) (j : Int) W (hW : SinceOf w W) (h1 : IsSlots W B' d' l) (h2 : l.length < 1073741824) (h3 : l.length ≤ d') => progDispatch_any sx A c L B' d' l j W (hx.shop.of hW) (hx.jobs.of hW) h1 h2 h3
  have hCI := fun (j : Int) W (hW : SinceOf w W) => containsInt_any B d kept j W (hk.of hW) (by omega)
  have hfm := fun (l : List SlotR) (j : Int) (hj : j ∈ restV (erSt ⟨sx, A, c, L, gA, gc, bg, pA, pc, pd, dA, dc, dr⟩) l) => freeL_mem.1 ((sortD_perm _ _).mem_iff.1 hj)
  have hnd := fun (l : List SlotR) => (sortD_perm (dueOf (erSt ⟨sx, A, c, L, gA, gc, bg, pA, pc, pd, dA, dc, dr⟩).L) (freeL (erSt ⟨sx, A, c, L, gA, gc, bg, pA, pc, pd, dA, dc, dr⟩) l (erSt ⟨sx, A, c, L, gA, gc, bg, pA, pc, pd, dA, dc, dr⟩).L.length)).nodup_iff.2 (freeL_nodup _ _ _)
  have hkt := fun (k : Nat) (h : k < kept.length) => keptL_take (erSt ⟨sx, A, c, L, gA, gc, bg, pA, pc, pd, dA, dc, dr⟩) h
  have hms := movedL_succ (erSt ⟨sx, A, c, L, gA, gc, bg, pA, pc, pd, dA, dc, dr⟩) kept
  have hmd : movedL (erSt ⟨sx, A, c, L, gA, gc, bg, pA, pc, pd, dA, dc, dr⟩) kept = (((List.range pd.length).filter fun (i : Nat) => !kept.contains (i : Int)).map fun i => ((erSt ⟨sx, A, c, L, gA, gc, bg, pA, pc, pd, dA, dc, dr⟩).pd.getD i noSlot).job) := rfl
  have hpdE : (erSt ⟨sx, A, c, L, gA, gc, bg, pA, pc, pd, dA, dc, dr⟩).pd = pd := rfl
  have hLE : (erSt ⟨sx, A, c, L, gA, gc, bg, pA, pc, pd, dA, dc, dr⟩).L.length = L.length := erL_length L
  simp only [hpdE] at hkt hms hmd
  rw [hmd] at hres
  have hk0 : keptL (erSt ⟨sx, A, c, L, gA, gc, bg, pA, pc, pd, dA, dc, dr⟩) kept = keptL (erSt ⟨sx, A, c, L, gA, gc, bg, pA, pc, pd, dA, dc, dr⟩) (kept.take kept.length) := by rw [List.take_length]
  have hkn : ∀ k, (keptL (erSt ⟨sx, A, c, L, gA, gc, bg, pA, pc, pd, dA, dc, dr⟩) (kept.take k)).length ≤ kept.length := fun k => by unfold keptL; rw [List.length_map, List.length_take]; omega
  have hkz : keptL (erSt ⟨sx, A, c, L, gA, gc, bg, pA, pc, pd, dA, dc, dr⟩) (kept.take 0) = [] := rfl
  rw [hk0] at hres
  generalize hPd : erSt ⟨sx, A, c, L, gA, gc, bg, pA, pc, pd, dA, dc, dr⟩ = P at *
  have hrest2 : ∀ (B' : Option Addr) (d' : Nat) (l : List SlotR) W, SinceOf w W → IsSlots W B' d' l → l.length < 1073741824 → Calls Tryz.prog 53 #[.agg #[.slice sx.A sx.cals.length sx.c, .slice sx.B sx.rows.length sx.d, .int .i64 sx.most, .slice A L.length c, .slice gA bg.length gc, .slice pA pd.length pc, .slice dA L.length dc], .slice B' l.length d'] W fun e w' => ∃ (C : Option Addr) (c' : Nat), e = .returned (.slice C (restV P l).length c') ∧ IsInts w' C c' (restV P l) ∧ (∀ b, blockOf C = some b → W.heap.size ≤ b ∧ b < w'.heap.size) ∧ SinceOf W w' := fun B' d' l W hW h1 h2 => by
    have h := hrest B' d' l W hW h1 h2
    simp only [stateV, hdr] at h
    exact h
  obtain ⟨i0, hi, hz0, hz1, hz2⟩ := info_parts infoSlot2
  obtain ⟨n0, ni, nz0, nz1, nz2⟩ := info_parts infoInt
  have HI := Lib.hid (And.intro hi (And.intro hz0 (And.intro hz1 hz2)))
  have NI := Lib.hid (And.intro ni (And.intro nz0 (And.intro nz1 nz2)))
  obtain ⟨sA, sc, cals, sB, sd, R, most⟩ := sx
  have HRES := Lib.hid hres
  have H := Lib.hid (And.intro hx (And.intro hk (And.intro hkt (And.intro hms (And.intro hkn (And.intro hfm hnd))))))
  have G := Lib.hid (And.intro hrest2 (And.intro hVA (And.intro hDI hCI)))
  have hll := hx.jobs.len
  clear hrest2 hres hx hk hkt hms hmd hkn hfm hnd hrest hVA hDI hCI hi hz0 hz1 hz2 ni nz0 nz1 nz2 hk0 hpdE hPd
  have HDR := Lib.hid hdr
  show Calls Tryz.prog _ #[.agg #[.slice sA cals.length sc, .slice sB R.length sd, .int .i64 most, .slice A L.length c, .slice gA bg.length gc, .slice pA pd.length pc, .slice dA dr.length dc], .slice B kept.length d] w _
  rw [hdr]
  clear hdr
  go_enter Tryz.func20, Tryz.ntmps20
  go_wp2_with fail
  refine (cloneS_any gA gc bg _ (H.out.1.bg.of Sx) (by omega)).mono ?_
  rintro e _ ⟨A0, c0, rfl, hA0, ⟨z0, rfl⟩⟩
  have e0 := z0.size
  simp at e0
  have H0 := Lib.hid hA0
  clear hA0
  go_wp2_with fail
  go_loopg [6, 32] kept.length (fun gas s6 s32 wr => ∃ (k : Nat) (C : Option Addr) (c1 : Nat), k ≤ kept.length ∧ kept.length - k ≤ gas ∧ s6 = .slice C (bg ++ keptL P (kept.take k)).length c1 ∧ s32 = .int .i64 k ∧ Owns encS 4 (w.heap.size + 1 + 1) 76 wr C c1 (bg ++ keptL P (kept.take k)) ∧ keptB pd.length (-1) kept = keptB pd.length (lastK kept k) (kept.drop k) ∧ (k ≠ 0 → 0 ≤ lastK kept k) ∧ SinceOf ((w.alloc (.cells #[.slice sA cals.length sc, .slice sB R.length sd, .int .i64 most, .slice A L.length c, .slice gA bg.length gc, .slice pA pd.length pc, .slice dA L.length dc] 42)).alloc (.cells #[.slice none 0 0, .slice none 0 0, .slice none 0 0] 61)) wr)
  case atStart => exact ⟨0, A0, c0, by omega, by omega, by rw [hkz, List.append_nil], rfl, by rw [hkz, List.append_nil]; exact H0.out.base_le (by simp), rfl, by omega, Sx⟩
  case round =>
    obtain ⟨k, C, c1, hkk, hgas, rfl, rfl, hown, hkb, hlk, ⟨z, rfl⟩⟩ := hrel
    obtain ⟨m, hm⟩ : ∃ m, m = bg ++ keptL P (kept.take k) := ⟨_, rfl⟩
    rw [← hm] at hown ⊢
    have hml : m.length ≤ bg.length + kept.length := by rw [hm, List.length_append]; have := H.out.2.2.2.2.1 k; omega
    have HM := Lib.hid hm
    clear hm
    by_cases hlt : k < kept.length
    · obtain ⟨g, off, rfl, hr⟩ := (H.out.2.1.of (show SinceOf w z.wd from Sx)).at_ (by omega)
      have hO := hr.there
      have v0 := hr.n0 k hlt
      rcases kept_cases (n := pd.length) hlt hlk with ⟨hf, hbad⟩ | ⟨a, b, hkn, hprev⟩
      · have hr2 : res = (2, noRes) := by rw [HRES.out, if_neg (by rw [hkb, hf]; simp)]
        subst hr2
        clear hkb hf hown hlk H0
        rcases hbad with a | ⟨a, b⟩ | ⟨a, b, q, rfl, cc⟩
        · clear hr
          generalize kept[k] = v at *
          go_wp2_with fail
          go_returns
          exact ⟨zeroM, rfl, rfl, zeroM_is _, zeroM_fresh _, Sx⟩
        · clear hr
          generalize kept[k] = v at *
          go_wp2_with fail
          go_returns
          exact ⟨zeroM, rfl, rfl, zeroM_is _, zeroM_fresh _, Sx⟩
        · have p0 := hr.n0 q (by omega)
          rw [← getD_at (show q < kept.length by omega)] at p0
          have hq1 : ((q + 1 : Nat) : Int) - 1 = q := by omega
          clear hr
          generalize kept[q + 1] = v at *
          generalize kept.getD q 0 = pv at *
          go_wp2_with fail
          go_returns
          exact ⟨zeroM, rfl, rfl, zeroM_is _, zeroM_fresh _, Sx⟩
      · have hkt := H.out.2.2.1 k hlt
        have hkn2 := H.out.2.2.2.2.1 k
        rw [← lastK_succ hlt] at a
        have hnx : 0 ≤ lastK kept (k + 1) := by omega
        rw [lastK_succ hlt] at a
        obtain ⟨v, hv⟩ : ∃ v : Nat, kept[k] = v := ⟨kept[k].toNat, by omega⟩
        rw [hv] at v0 a b hkt
        rw [Int.toNat_natCast] at hkt
        have hvn : v < pd.length := by omega
        rw [getS_at hvn] at hkt
        obtain ⟨gp, op, rfl, hrp⟩ := (H.out.1.pd.of (show SinceOf w z.wd from Sx)).at_ (by show 0 < pd.length; omega)
        have hOp := hrp.there
        have s0 := hrp.s0 v hvn
        have s1 := hrp.s1 v hvn
        have s2 := hrp.s2 v hvn
        have s3 := hrp.s3 v hvn
        have hsz := z.size
        simp at hsz
        have HK := Lib.hid (And.intro hown (And.intro hkt (And.intro (hkb.trans hkn) (And.intro hnx hsz))))
        have hp : k = 0 ∨ ∃ q, k = q + 1 ∧ ¬ (v : Int) ≤ kept.getD q 0 := by rw [hv] at hprev; exact hprev
        generalize pd[v] = y at *
        rcases hp with rfl | ⟨q, rfl, cc⟩
        · simp only [Nat.add_zero] at v0
          clear hkb hkn hown hlk hkt hr hrp hv hprev hsz
          go_wp2_with (at_builtin; refine wpList_append_row rfl (.tmp 60) (.tmp 66) 39 rfl encS_len (by omega) encS_one i0 _ 32 Tryz.underlying39 HI.out.1 HI.out.2.1 HI.out.2.2.1 HI.out.2.2.2 rfl (l := m) (A := C) (c := c1) (base := w.heap.size + 1 + 1) rfl (HK.out.1.of Sx) (m := [y]) rfl (rowS_at _ _ y _ (by first | rfl | simp)) (by unfold maxLen; simp; omega) (by simp; omega) (by have := HK.out.2.2.2.2; simp; omega) ?_; intro E3 f3 w3 hown3 hgr3 hbl3)
          go_roundg (kept.length - (0 + 1))
          case measure => omega
          case rel =>
            refine ⟨0 + 1, E3, f3, hlt, Nat.le_refl _, ?_, by go_num, ?_, HK.out.2.2.1, fun _ => HK.out.2.2.2.1, ?_⟩
            · rw [HK.out.2.1, ← List.append_assoc, ← HM.out, List.length_append]; rfl
            · rw [HK.out.2.1, ← List.append_assoc, ← HM.out]; exact hown3
            · refine SinceOf.grown Sx hgr3 ?_
              intro q2 hq2
              have := (HK.out.1.below q2 hq2).1
              simp
              omega
        · have p0 := hr.n0 q (by omega)
          rw [← getD_at (show q < kept.length by omega)] at p0
          have hq1 : ((q + 1 : Nat) : Int) - 1 = q := by omega
          clear hkb hkn hown hlk hkt hr hrp hv hprev hsz
          generalize kept.getD q 0 = pv at *
          go_wp2_with (at_builtin; refine wpList_append_row rfl (.tmp 60) (.tmp 66) 39 rfl encS_len (by omega) encS_one i0 _ 32 Tryz.underlying39 HI.out.1 HI.out.2.1 HI.out.2.2.1 HI.out.2.2.2 rfl (l := m) (A := C) (c := c1) (base := w.heap.size + 1 + 1) rfl (HK.out.1.of Sx) (m := [y]) rfl (rowS_at _ _ y _ (by first | rfl | simp)) (by unfold maxLen; simp; omega) (by simp; omega) (by have := HK.out.2.2.2.2; simp; omega) ?_; intro E3 f3 w3 hown3 hgr3 hbl3)
          go_roundg (kept.length - (q + 1 + 1))
          case measure => omega
          case rel =>
            refine ⟨q + 1 + 1, E3, f3, hlt, Nat.le_refl _, ?_, by go_num, ?_, HK.out.2.2.1, fun _ => HK.out.2.2.2.1, ?_⟩
            · rw [HK.out.2.1, ← List.append_assoc, ← HM.out, List.length_append]; rfl
            · rw [HK.out.2.1, ← List.append_assoc, ← HM.out]; exact hown3
            · refine SinceOf.grown Sx hgr3 ?_
              intro q2 hq2
              have := (HK.out.1.below q2 hq2).1
              simp
              omega
    · have hkl2 : k = kept.length := by omega
      have hkT : keptB pd.length (-1) kept = true := by rw [hkb, hkl2, List.drop_length]; rfl
      have hm2 : bg ++ keptL P (kept.take kept.length) = m := by rw [HM.out, hkl2]
      have hr1 := HRES.out
      rw [if_pos hkT, hm2] at hr1
      have VA := G.out.2.1 C c1 m
      have hcap := hown.le_cap
      obtain ⟨⟨vi, ve⟩, hvt⟩ : ∃ vt, validT ⟨sA, sc, cals, sB, sd, R, most⟩ L m = vt := ⟨_, rfl⟩
      rw [hvt] at VA
      by_cases hve : ve = 0
      · subst hve
        have hgood := validT_zero.1 (show (validT ⟨sA, sc, cals, sB, sd, R, most⟩ L m).2 = 0 by rw [hvt])
        rw [if_pos (by rw [hvt])] at hr1
        have hmv := H.out.2.2.2.1
        have hmv0 : (((List.range 0).filter fun (i : Nat) => !kept.contains (i : Int)).map fun i => (pd.getD i noSlot).job) = [] := rfl
        have hmvl : ∀ n, (((List.range n).filter fun (i : Nat) => !kept.contains (i : Int)).map fun i => (pd.getD i noSlot).job).length ≤ n := fun n => by
          rw [List.length_map]
          exact Nat.le_trans (List.length_filter_le _ _) (by simp)
        obtain ⟨mv, hmvd⟩ : ∃ mv : Nat → List Int, mv = fun n => (((List.range n).filter fun (i : Nat) => !kept.contains (i : Int)).map fun i => (pd.getD i noSlot).job) := ⟨_, rfl⟩
        have hmv2 : ∀ n, mv (n + 1) = if kept.contains (n : Int) = true then mv n else mv n ++ [(pd.getD n noSlot).job] := fun n => by rw [hmvd]; exact hmv n
        have hmv3 : ∀ n, (mv n).length ≤ n := fun n => by rw [hmvd]; exact hmvl n
        have hmv4 : mv 0 = [] := by rw [hmvd]; rfl
        have hr2 : res = (0, ⟨(dispAll ⟨sA, sc, cals, sB, sd, R, most⟩ L m [] (restV P m)).1, sortI (mv pd.length), sortI (dispAll ⟨sA, sc, cals, sB, sd, R, most⟩ L m [] (restV P m)).2⟩) := by rw [hr1, hmvd]
        have HV := Lib.hid (And.intro hgood (And.intro hmv2 (And.intro hmv3 (And.intro hmv4 hr2))))
        have HO := Lib.hid hown
        have hsz := z.size
        simp at hsz
        clear hgood hmv hmv0 hmvl hmvd hmv2 hmv3 hmv4 hr1 hr2 hown hm2 hkT hkb hlk hvt HRES
        go_wp2_with fail
        (with_reducible refine (VA _ Sx ((HO.out.isRow encS_len).of Sx) (by omega) hcap).calls.mono ?_)
        rintro e _ ⟨rfl, z2, rfl⟩
        have hz2 := z2.size
        clear VA
        go_wp2_with fail
        go_loopg [84] pd.length (fun gas s84 wr => ∃ (i : Nat) (M : Option Addr) (mc : Nat), i ≤ pd.length ∧ pd.length - i ≤ gas ∧ s84 = .int .i64 i ∧ ResAt wr z2.wd.heap.size (.slice none 0 0) (.slice M (mv i).length mc) (.slice none 0 0) ∧ Owns encN 1 (z2.wd.heap.size + 1) 3 wr M mc (mv i) ∧ SinceOf z2.wd wr)
        case atStart => exact ⟨0, none, 0, by omega, by omega, rfl, by rw [HV.out.2.2.2.1]; exact ResAt.made _, by rw [HV.out.2.2.2.1]; exact Owns.nil _ _ _ _ _, Sx⟩
        case round =>
          obtain ⟨i, M, mc, hi, hgas2, rfl, hres, hM, ⟨z3, rfl⟩⟩ := hrel
          by_cases hlt2 : i < pd.length
          · obtain ⟨gp, op, rfl, hrp⟩ := (H.out.1.pd.of (show SinceOf w z3.wd from Sx)).at_ (by show 0 < pd.length; omega)
            have hOp := hrp.there
            have s0 := hrp.s0 i hlt2
            have s1 := hrp.s1 i hlt2
            have s2 := hrp.s2 i hlt2
            have s3 := hrp.s3 i hlt2
            have hms := HV.out.2.1 i
            have hml3 := HV.out.2.2.1 i
            rw [getS_at hlt2] at hms
            have CI := G.out.2.2.2 (i : Int)
            rw [show kept.any (fun y => (i : Int) == y) = kept.contains (i : Int) from by rw [List.contains_eq_any_beq]] at CI
            obtain ⟨mvi, hmvi⟩ : ∃ q, q = mv i := ⟨_, rfl⟩
            rw [← hmvi] at hres hM hms hml3
            have hOo := hres.old
            have r1 := hres.c1
            have f1 := hres.free 1
            have hz3 := z3.size
            have HB := Lib.hid (And.intro hms (And.intro hM hres))
            clear hms hM hrp hres hmvi
            generalize kept.contains (i : Int) = q at *
            generalize pd[i] = y at *
            cases q
            · have hms2 : mv (i + 1) = mvi ++ [y.job] := by have := HB.out.1; simpa using this
              have HM2 := Lib.hid hms2
              clear hms2
              go_wp2_with fail
              refine (CI _ Sx).calls.mono ?_
              rintro e _ ⟨rfl, z4, rfl⟩
              have hz4 := z4.size
              simp at hz4
              go_wp2_with (at_builtin; refine wpList_append_row rfl (.tmp 94) (.tmp 97) 57 rfl encN_len (by omega) encN_one n0 _ 8 Tryz.underlying57 NI.out.1 NI.out.2.1 NI.out.2.2.1 NI.out.2.2.2 rfl (l := mvi) (A := M) (c := mc) (base := z2.wd.heap.size + 1) rfl (HB.out.2.1.of Sx) (m := [y.job]) rfl (rowN_at _ _ _ _ (by first | rfl | simp)) (by unfold maxLen; simp; omega) (by simp; omega) (by simp; omega) ?_; intro E3 f3 w3 hown3 hgr3 hbl3; have SB : SameBut [3] z3.wd w3 := (SameBut.since Sx).trans (SameBut.grown hgr3 (fun g5 hg5 => by obtain ⟨cur, hc⟩ := HB.out.2.1.typed g5 hg5; exact ⟨cur, _, _, List.mem_singleton.2 rfl, SameBut.since (es := []) Sx g5 cur _ _ (by simp) hc⟩)); have hr3 := HB.out.2.2.sameBut SB (by simp); have r31 := hr3.c1; have f31 := hr3.free 1; have hO3 := hr3.old)
              go_roundg (pd.length - (i + 1))
              case measure => omega
              case rel =>
                refine ⟨i + 1, E3, f3, hlt2, Nat.le_refl _, by go_num, ?_, ?_, ?_⟩
                · rw [HM2.out, List.length_append]; exact hr3.set1 _
                · rw [HM2.out]; exact hown3.setOther (Nat.lt_succ_self _)
                · refine SinceOf.setCell (SinceOf.grown (show SinceOf z2.wd _ from Sx) hgr3 ?_) (Nat.le_refl _) _
                  intro q2 hq2
                  have := (HB.out.2.1.below q2 hq2).1
                  omega
            · go_wp2_with fail
              refine (CI _ Sx).calls.mono ?_
              rintro e _ ⟨rfl, z4, rfl⟩
              go_wp2_with fail
              go_roundg (pd.length - (i + 1))
              case measure => omega
              case rel => exact ⟨i + 1, M, mc, hlt2, Nat.le_refl _, by go_num, by rw [HB.out.1, if_pos trivial]; exact HB.out.2.2.of Sx, by rw [HB.out.1, if_pos trivial]; exact HB.out.2.1.of Sx, Sx⟩
          · have hil : i = pd.length := by omega
            rw [hil] at hres hM
            have hml3 := HV.out.2.2.1 pd.length
            obtain ⟨ml, hmld⟩ : ∃ q, q = mv pd.length := ⟨_, rfl⟩
            rw [← hmld] at hres hM hml3
            rw [hil]
            have hz3 := z3.size
            have RS := G.out.1 C c1 m
            have hr2 := HV.out.2.2.2.2
            rw [← hmld] at hr2
            have hrin : ∀ r ∈ restV P m, (0 ≤ r ∧ r < L.length) ∧ ∀ y ∈ m, y.job ≠ r := fun r hr => by
              obtain ⟨q, rfl, h1, -, h2⟩ := H.out.2.2.2.2.2.1 m r hr
              rw [hLE] at h1
              exact ⟨by omega, h2⟩
            have hrnd : (restV P m).Nodup := H.out.2.2.2.2.2.2 m
            have hrll : (restV P m).length < 1000000 := by
              unfold restV
              rw [(sortD_perm _ _).length_eq]
              have := freeL_length_le P m P.L.length
              omega
            obtain ⟨rl, hrl⟩ : ∃ q, q = restV P m := ⟨_, rfl⟩
            rw [← hrl] at RS hr2 hrin hrnd hrll
            have HR3 := Lib.hid (And.intro hr2 (And.intro hrin (And.intro hrnd (And.intro hres hM))))
            have HRL := Lib.hid hrl
            clear hr2 hrin hrnd hres hM hmld hil hrl
            go_wp2_with fail
            (with_reducible refine (RS _ Sx ((HO.out.isRow encS_len).of Sx) (by omega)).mono ?_)
            rintro e _ ⟨RC, rc, rfl, hRC, hRb, ⟨z4, rfl⟩⟩
            have hz4 := z4.size
            have hoz : z2.wd.heap.size < z4.wd.heap.size := by have := HR3.out.2.2.2.1.lt; omega
            have HR4 := Lib.hid (And.intro hRC hRb)
            clear hRC hRb RS
            go_wp2_with fail
            go_loopg [6, 105] rl.length (fun gas s6 s105 wr => ∃ (j : Nat) (l : List SlotR) (left : List Int) (C5 : Option Addr) (c5 : Nat) (E : Option Addr) (ec : Nat), j ≤ rl.length ∧ rl.length - j ≤ gas ∧ s6 = .slice C5 l.length c5 ∧ s105 = .int .i64 j ∧ Owns encS 4 (w.heap.size + 1 + 1) 76 wr C5 c5 l ∧ ResAt wr z2.wd.heap.size (.slice none 0 0) (.slice M ml.length mc) (.slice E left.length ec) ∧ Owns encN 1 (z2.wd.heap.size + 1) 3 wr M mc ml ∧ Owns encN 1 z4.wd.heap.size 3 wr E ec left ∧ IsInts wr RC rc rl ∧ (∀ b, blockOf C5 = some b → blockOf RC ≠ some b) ∧
              dispAll ⟨sA, sc, cals, sB, sd, R, most⟩ L m [] rl = dispAll ⟨sA, sc, cals, sB, sd, R, most⟩ L l left (rl.drop j) ∧ GoodS ⟨sA, sc, cals, sB, sd, R, most⟩ L l ∧ (∀ y ∈ l, ∀ r ∈ rl.drop j, y.job ≠ r) ∧ l.length ≤ m.length + j ∧ left.length ≤ j ∧ z4.wd.heap.size ≤ wr.heap.size ∧ SinceOf ((w.alloc (.cells #[.slice sA cals.length sc, .slice sB R.length sd, .int .i64 most, .slice A L.length c, .slice gA bg.length gc, .slice pA pd.length pc, .slice dA L.length dc] 42)).alloc (.cells #[.slice none 0 0, .slice none 0 0, .slice none 0 0] 61)) wr)
            case atStart =>
              refine ⟨0, m, [], C, c1, none, 0, by omega, by omega, rfl, rfl, HO.out.of Sx, HR3.out.2.2.2.1.of Sx, HR3.out.2.2.2.2.of Sx, Owns.nil _ _ _ _ _, HR4.out.1, fun b hb e => ?_, by rw [List.drop_zero], HV.out.1.2, fun y hy r hr => (HR3.out.2.1 r (List.mem_of_mem_drop hr)).2 y hy, by omega, by simp, Nat.le_refl _, Sx⟩
              have h1 := (HO.out.below b hb).2
              have h2 := (HR4.out.2 b e).1
              omega
            case round =>
              obtain ⟨j, l, left, C5, c5, E, ec, hj, hgas3, rfl, rfl, hl5, hres5, hM5, hE5, hRC5, hap, hda, hgl, hnin, hln, hlfn, hz45, ⟨z5, rfl⟩⟩ := hrel
              by_cases hlt3 : j < rl.length
              · have hL0 : ∀ q : Nat, q < L.length → 0 ≤ (jobAt L q).rel ∧ (jobAt L q).rel ≤ 1000000 := fun q hq => by
                  have := (job_parts (check_job HV.out.1.1 (List.getElem_mem hq))).2.2.2.2.1
                  rw [← jobAt_at hq] at this
                  exact this
                have hcap5 := hl5.le_cap
                have hz5 := z5.size
                simp at hz5
                obtain ⟨hrr, -⟩ := HR3.out.2.1 rl[j] (List.getElem_mem hlt3)
                have hask : askedE L l rl[j] = 0 := askedE_ok hrr.1 hrr.2 (fun y hy => hnin y hy rl[j] (by rw [List.drop_eq_getElem_cons hlt3]; exact List.mem_cons.2 (.inl rfl)))
                have hvl : (validT ⟨sA, sc, cals, sB, sd, R, most⟩ L l).2 = 0 := validT_zero.2 ⟨HV.out.1.1, hgl⟩
                have DI := G.out.2.2.1 C5 c5 l rl[j]
                have hdr : dispR ⟨sA, sc, cals, sB, sd, R, most⟩ L l rl[j] = (slotOr (dispatchV ⟨sA, sc, cals, sB, sd, R, most⟩ L l rl[j]), (dispatchV ⟨sA, sc, cals, sB, sd, R, most⟩ L l rl[j]).isSome, 0) := by unfold dispR; rw [if_pos hvl, if_pos hask]
                rw [hdr] at DI
                unfold dispTup at DI
                simp only at DI
                rw [List.drop_eq_getElem_cons hlt3] at hda hnin
                have hnd2 : ∀ r ∈ rl.drop (j + 1), rl[j] ≠ r := by
                  have h9 : (rl.drop j).Nodup := (List.drop_sublist _ _).nodup HR3.out.2.2.1
                  rw [List.drop_eq_getElem_cons hlt3, List.nodup_cons] at h9
                  intro r hr e
                  exact h9.1 (by rw [e]; exact hr)
                obtain ⟨gr, orr, rfl, hrr5⟩ := hRC5.at_ (by omega)
                have hOr := hrr5.there
                have rj := hrr5.n0 j hlt3
                obtain ⟨q, hq⟩ : ∃ q : Nat, rl[j] = q := ⟨rl[j].toNat, by omega⟩
                have hql : q < L.length := by omega
                have hrel := (hL0 q hql).1
                have hgv : ∀ y, dispatchV ⟨sA, sc, cals, sB, sd, R, most⟩ L l rl[j] = some y → GoodS ⟨sA, sc, cals, sB, sd, R, most⟩ L (l ++ [y]) ∧ y.job = rl[j] := fun y hy => by
                  rw [hq] at hy ⊢
                  exact ⟨validV_good.1 (dispatch_valid hrel hy), (dispatch_named hy).1⟩
                have hOo := hres5.old
                have r2 := hres5.c2
                have f2 := hres5.free 2
                obtain ⟨dv, hdv⟩ : ∃ dv, dispatchV ⟨sA, sc, cals, sB, sd, R, most⟩ L l rl[j] = dv := ⟨_, rfl⟩
                rw [hdv] at DI hgv
                have HD := Lib.hid hdv
                have H5 := Lib.hid (And.intro hl5 (And.intro hres5 (And.intro hM5 (And.intro hE5 (And.intro hRC5 (And.intro hap (And.intro hda (And.intro hgl (And.intro hnin (And.intro hnd2 hgv))))))))))
                clear hl5 hres5 hM5 hE5 hRC5 hap hda hgl hnin hnd2 hgv hdv hL0 hask hvl hdr hrr5 hrel hrr hq
                generalize rl[j] = rj0 at *
                have HNM := Lib.hid (show blockOf M = none ∨ blockOf M ≠ blockOf E from by
                  cases hMb : blockOf M with
                  | none => exact .inl rfl
                  | some b =>
                    right
                    intro e
                    have h1 := (HR3.out.2.2.2.2.below b hMb).2
                    have h2 := (H5.out.2.2.2.1.below b e.symm).1
                    omega)
                have HNR := Lib.hid (show ∀ b, blockOf (some ⟨gr, orr, none⟩) = some b → blockOf E ≠ some b ∧ b < z4.wd.heap.size ∧ b ≠ z2.wd.heap.size from fun b hb => by
                  have h1 := HR4.out.2 b hb
                  have h7 := HR3.out.2.2.2.1.lt
                  refine ⟨fun e => ?_, h1.2, by omega⟩
                  have h2 := (H5.out.2.2.2.1.below b e).1
                  omega)
                cases dv with
                | none =>
                  simp only [slotOr, Option.getD_none, Option.isSome_none] at DI
                  go_wp2_with fail
                  refine (DI _ Sx ((H5.out.1.isRow encS_len).of Sx) (by omega) hcap5).calls.mono ?_
                  rintro e _ ⟨rfl, z6, rfl⟩
                  have hz6 := z6.size
                  (try simp at hz6)
                  go_wp2_with (at_builtin; refine wpList_append_row rfl (.tmp 121) (.tmp 123) 57 rfl encN_len (by omega) encN_one n0 _ 8 Tryz.underlying57 NI.out.1 NI.out.2.1 NI.out.2.2.1 NI.out.2.2.2 rfl (l := left) (A := E) (c := ec) (base := z4.wd.heap.size) rfl (H5.out.2.2.2.1.of Sx) (m := [rj0]) rfl (rowN_at _ _ _ _ (by first | rfl | simp)) (by unfold maxLen; simp; omega) (by simp; omega) (by simp; omega) ?_; intro E3 f3 w3 hown3 hgr3 hbl3; have SB : SameBut [3] z5.wd w3 := (SameBut.since Sx).trans (SameBut.grown hgr3 (fun g5 hg5 => by obtain ⟨cur, hc⟩ := H5.out.2.2.2.1.typed g5 hg5; exact ⟨cur, _, _, List.mem_singleton.2 rfl, SameBut.since (es := []) Sx g5 cur _ _ (by simp) hc⟩)); have hr3 := H5.out.2.1.sameBut SB (by simp); have r32 := hr3.c2; have f32 := hr3.free 2; have hO3 := hr3.old)
                  have hgs := hgr3.size
                  simp at hgs
                  go_roundg (rl.length - (j + 1))
                  case measure => omega
                  case rel =>
                    refine ⟨j + 1, l, left ++ [rj0], C5, c5, E3, f3, hlt3, Nat.le_refl _, rfl, by go_num, ?_, ?_, ?_, ?_, ?_, H5.out.2.2.2.2.2.1, H5.out.2.2.2.2.2.2.1.trans (dispAll_none HD.out), H5.out.2.2.2.2.2.2.2.1, fun y hy r hr => H5.out.2.2.2.2.2.2.2.2.1 y hy r (List.mem_cons_of_mem _ hr), by omega, by simp; omega, ?_, ?_⟩
                    · exact (H5.out.1.sameBut (by simp) SB).sameBut (by simp) (SameBut.setRes (es := [61]) hr3 (by simp) 2 _)
                    · rw [List.length_append]; exact hr3.set2 _
                    · exact (((H5.out.2.2.1.of Sx).kept hgr3 HNM.out).setOther (Nat.lt_succ_self _))
                    · exact hown3.setOther (by omega)
                    · exact ((H5.out.2.2.2.2.1.of Sx).grownN hgr3 (fun b hb => (HNR.out b hb).1)).setOther _ _ _ (fun b hb => (HNR.out b hb).2.2)
                    · simp; omega
                    · refine SinceOf.setCell (SinceOf.grown Sx hgr3 (fun q2 hq2 => ?_)) (by simp; omega) _
                      have := (H5.out.2.2.2.1.below q2 hq2).1
                      simp
                      omega
                | some y =>
                  obtain ⟨y0, y1, y2, y3⟩ := y
                  simp only [slotOr, Option.getD_some, Option.isSome_some] at DI
                  go_wp2_with fail
                  refine (DI _ Sx ((H5.out.1.isRow encS_len).of Sx) (by omega) hcap5).calls.mono ?_
                  rintro e _ ⟨rfl, z6, rfl⟩
                  have hz6 := z6.size
                  (try simp at hz6)
                  go_wp2_with (at_builtin; refine wpList_append_row rfl (.tmp 133) (.tmp 135) 39 rfl encS_len (by omega) encS_one i0 _ 32 Tryz.underlying39 HI.out.1 HI.out.2.1 HI.out.2.2.1 HI.out.2.2.2 rfl (l := l) (A := C5) (c := c5) (base := w.heap.size + 1 + 1) rfl (H5.out.1.of Sx) (m := [⟨y0, y1, y2, y3⟩]) rfl (rowS_at _ _ ⟨y0, y1, y2, y3⟩ _ (by first | rfl | simp)) (by unfold maxLen; simp; omega) (by simp; omega) (by simp; omega) ?_; intro E3 f3 w3 hown3 hgr3 hbl3; have SB : SameBut [76] z5.wd w3 := (SameBut.since Sx).trans (SameBut.grown hgr3 (fun g5 hg5 => by obtain ⟨cur, hc⟩ := H5.out.1.typed g5 hg5; exact ⟨cur, _, _, List.mem_singleton.2 rfl, SameBut.since (es := []) Sx g5 cur _ _ (by simp) hc⟩)))
                  have hgs := hgr3.size
                  simp at hgs
                  obtain ⟨hg2, hj2⟩ := H5.out.2.2.2.2.2.2.2.2.2.2 ⟨y0, y1, y2, y3⟩ rfl
                  have HY := Lib.hid (And.intro hg2 hj2)
                  clear hg2 hj2
                  go_roundg (rl.length - (j + 1))
                  case measure => omega
                  case rel =>
                    refine ⟨j + 1, l ++ [⟨y0, y1, y2, y3⟩], left, E3, f3, E, ec, hlt3, Nat.le_refl _, by rw [List.length_append]; rfl, by go_num, hown3, H5.out.2.1.sameBut SB (by simp), H5.out.2.2.1.sameBut (by simp) SB, H5.out.2.2.2.1.sameBut (by simp) SB, (H5.out.2.2.2.2.1.of Sx).grownN hgr3 (fun b hb e => H5.out.2.2.2.2.2.1 b e hb), fun b hb e => ?_, H5.out.2.2.2.2.2.2.1.trans (dispAll_some HD.out), HY.out.1, fun y hy r hr => ?_, by simp; omega, by omega, by omega, ?_⟩
                    · rcases hbl3 with h1 | h1
                      · exact H5.out.2.2.2.2.2.1 b (by rw [← h1]; exact hb) e
                      · rw [h1] at hb
                        injection hb with hb
                        have h2 := (HNR.out b e).2.1
                        simp at hb
                        omega
                    · rcases List.mem_append.1 hy with hy | hy
                      · exact H5.out.2.2.2.2.2.2.2.2.1 y hy r (List.mem_cons_of_mem _ hr)
                      · rw [List.mem_singleton] at hy
                        subst hy
                        rw [HY.out.2]
                        exact H5.out.2.2.2.2.2.2.2.2.2.1 r hr
                    · refine SinceOf.grown Sx hgr3 (fun q2 hq2 => ?_)
                      have := (H5.out.1.below q2 hq2).1
                      simp
                      omega
              · have hjl : j = rl.length := by omega
                have hr9 : res = (0, ⟨l, sortI ml, sortI left⟩) := by
                  rw [HR3.out.1, hda, hjl, List.drop_length]
                  rfl
                subst hr9
                have hz5 := z5.size
                simp at hz5
                have hzz := z2.size
                have hO1b : w.heap.size + 1 + 1 ≤ z2.wd.heap.size := by omega
                have hnEM : ∀ b, blockOf E = some b → blockOf M ≠ some b := fun b hb e => by
                  have h1 := (HR3.out.2.2.2.2.below b e).2
                  have h2 := (hE5.below b hb).1
                  omega
                have hcapl := hl5.le_cap
                have hnl := hres5.ne hl5 (by decide)
                have hlb := hl5.below
                have hMb := hM5.below
                have hEb := hE5.below
                have SO1 := fun W (hW : SinceOf z5.wd W) => sortOwn_any (z2.wd.heap.size + 1) M mc ml W (hM5.of hW) (by omega)
                have hOo := hres5.old
                have r1 := hres5.c1
                have pa1 : Nonempty (Apart z2.wd.heap.size (w.heap.size + 1)) := ⟨⟨by omega⟩⟩
                have pa2 : Nonempty (Apart (w.heap.size + 1) z2.wd.heap.size) := ⟨⟨by omega⟩⟩
                have H6 := Lib.hid (And.intro hl5 (And.intro hres5 (And.intro hM5 (And.intro hE5 (And.intro hnEM (And.intro hnl (And.intro hlb (And.intro hMb hEb))))))))
                clear hl5 hres5 hM5 hE5 hRC5 hap hda hgl hnin hnEM hnl hlb hMb hEb hjl
                go_wp2_with fail
                refine (SO1 _ Sx).mono ?_
                rintro e w1 ⟨rfl, hs1, hg1⟩
                have SB1 : SameBut [3] z5.wd w1 := (SameBut.since Sx).trans (SameBut.grown hg1 (fun g5 hg5 => by obtain ⟨cur, hc⟩ := H6.out.2.2.1.typed g5 hg5; exact ⟨cur, _, _, List.mem_singleton.2 rfl, SameBut.since (es := []) Sx g5 cur _ _ (by simp) hc⟩))
                have hsW : SinceOf ((w.alloc (.cells #[.slice sA cals.length sc, .slice sB R.length sd, .int .i64 most, .slice A L.length c, .slice gA bg.length gc, .slice pA pd.length pc, .slice dA L.length dc] 42)).alloc (.cells #[.slice none 0 0, .slice none 0 0, .slice none 0 0] 61)) w1 := SinceOf.grown Sx hg1 (fun q2 hq2 => by have := (H6.out.2.2.2.2.2.2.2.1 q2 hq2).1; simp; omega)
                have hE1 : Owns encN 1 z4.wd.heap.size 3 w1 E ec left := (H6.out.2.2.2.1.of Sx).kept hg1 (by
                  cases hb : blockOf E with
                  | none => exact .inl rfl
                  | some b => exact .inr (fun e => H6.out.2.2.2.2.1 b hb e.symm))
                obtain ⟨y1, rfl⟩ := hsW
                have hres1 := H6.out.2.1.sameBut SB1 (by simp)
                have r12 := hres1.c2
                have hOo1 := hres1.old
                have H7 := Lib.hid (And.intro hs1 (And.intro hg1 (And.intro SB1 (And.intro hE1 hres1))))
                clear hs1 hg1 SB1 hE1 hres1 SO1
                go_wp2_with fail
                refine (sortOwn_any z4.wd.heap.size E ec left _ (H7.out.2.2.2.1.of Sx) (by omega)).mono ?_
                rintro e w2 ⟨rfl, hs2, hg2⟩
                have SB2 : SameBut [3] y1.wd w2 := (SameBut.since Sx).trans (SameBut.grown hg2 (fun g5 hg5 => by obtain ⟨cur, hc⟩ := H7.out.2.2.2.1.typed g5 hg5; exact ⟨cur, _, _, List.mem_singleton.2 rfl, SameBut.since (es := []) Sx g5 cur _ _ (by simp) hc⟩))
                have hsW : SinceOf ((w.alloc (.cells #[.slice sA cals.length sc, .slice sB R.length sd, .int .i64 most, .slice A L.length c, .slice gA bg.length gc, .slice pA pd.length pc, .slice dA L.length dc] 42)).alloc (.cells #[.slice none 0 0, .slice none 0 0, .slice none 0 0] 61)) w2 := SinceOf.grown Sx hg2 (fun q2 hq2 => by have := (H6.out.2.2.2.2.2.2.2.2 q2 hq2).1; simp; omega)
                have hM2 : IsInts w2 M mc (sortI ml) := (H7.out.1.of Sx).grownN hg2 (fun b hb e => H6.out.2.2.2.2.1 b e hb)
                obtain ⟨y2, rfl⟩ := hsW
                have hres2 := H7.out.2.2.2.2.sameBut SB2 (by simp)
                have hl2 := (((H6.out.1.sameBut (by simp) H7.out.2.2.1).sameBut (by simp) SB2).isRow encS_len)
                have q0 := hres2.c0
                have q1 := hres2.c1
                have q2 := hres2.c2
                have g0 := hres2.free 0
                have hOo2 := hres2.old
                have H8 := Lib.hid (And.intro hs2 (And.intro hM2 (And.intro hl2 hres2)))
                clear hs2 hg2 SB2 hM2 hres2 hl2
                go_wp2_with fail
                go_returns
                have n1 : ∀ b, blockOf C5 = some b → b ≠ w.heap.size + 1 := fun b hb => by have := (H6.out.2.2.2.2.2.2.1 b hb).1; omega
                have n2 : ∀ b, blockOf M = some b → b ≠ z2.wd.heap.size ∧ b ≠ w.heap.size + 1 := fun b hb => by have := (H6.out.2.2.2.2.2.2.2.1 b hb).1; omega
                have n3 : ∀ b, blockOf E = some b → b ≠ z2.wd.heap.size ∧ b ≠ w.heap.size + 1 := fun b hb => by have := (H6.out.2.2.2.2.2.2.2.2 b hb).1; omega
                refine ⟨⟨⟨l, sortI ml, sortI left⟩, C5, c5, M, mc, E, ec⟩, ?_, rfl, ⟨?_, ?_, ?_, hcapl⟩, ⟨fun b hb => by have := (H6.out.2.2.2.2.2.2.1 b hb).1; omega, fun b hb => by have := (H6.out.2.2.2.2.2.2.2.1 b hb).1; omega, fun b hb => by have := (H6.out.2.2.2.2.2.2.2.2 b hb).1; omega⟩, ?_⟩
                · show _ = Ending.returned (.tuple #[.agg #[.slice C5 l.length c5, .slice M (sortI ml).length mc, .slice E (sortI left).length ec], .int .i64 0])
                  rw [(sortI_perm ml).length_eq, (sortI_perm left).length_eq]
                · exact (((H8.out.2.2.1.setOther _ _ _ H6.out.2.2.2.2.2.1).setOther _ _ _ n1).setOther _ _ _ n1).setOther _ _ _ n1
                · exact (((H8.out.2.1.setOther _ _ _ (fun b hb => (n2 b hb).1)).setOther _ _ _ (fun b hb => (n2 b hb).2)).setOther _ _ _ (fun b hb => (n2 b hb).2)).setOther _ _ _ (fun b hb => (n2 b hb).2)
                · exact (((H8.out.1.setOther _ _ _ (fun b hb => (n3 b hb).1)).setOther _ _ _ (fun b hb => (n3 b hb).2)).setOther _ _ _ (fun b hb => (n3 b hb).2)).setOther _ _ _ (fun b hb => (n3 b hb).2)
                · exact SinceOf.setCell (SinceOf.setCell (SinceOf.setCell (SinceOf.setCell (show SinceOf w y2.wd from Sx) (by show w.heap.size ≤ z2.wd.heap.size; omega) _) (show w.heap.size ≤ w.heap.size + 1 by omega) _) (show w.heap.size ≤ w.heap.size + 1 by omega) _) (show w.heap.size ≤ w.heap.size + 1 by omega) _
      · have hr2 : res = (31, noRes) := by rw [hr1, if_neg (by rw [hvt]; exact hve)]
        have hve2 : (ve != 0) = true := by simpa using hve
        subst hr2
        have HO := Lib.hid (hown.isRow encS_len)
        clear hown hr1 hkb hm2 hkT hvt hve hlk
        go_wp2_with fail
        (with_reducible refine (VA _ Sx (HO.out.of Sx) (by omega) hcap).calls.mono ?_)
        rintro e _ ⟨rfl, z2, rfl⟩
        go_wp2_with fail
        go_returns
        exact ⟨zeroM, rfl, rfl, zeroM_is _, zeroM_fresh _, Sx⟩
end Go.Proofs.YtpaojgfmffkodaaGreat
/- Layer 54: the program's Replan. -/
namespace Go.Proofs.YtpaojgfmffkodaaGreat
set_option linter.unusedVariables false
set_option linter.unusedSimpArgs false
open Go.RowKit Go.Sort
attribute [local go_sem ↓] Go.wp_at_zero Go.wp_at_succ
theorem chosen_len (x : StP) : ∀ n, (chosenTo x n).1.length ≤ x.bg.length + n ∧ (chosenTo x n).2.length ≤ n
  | 0 => ⟨Nat.le_refl _, Nat.le_refl _⟩
  | n + 1 => by
    obtain ⟨h1, h2⟩ := chosen_len x n
    unfold chosenTo
    split
    · simp; omega
    · exact ⟨by omega, by omega⟩
set_option maxRecDepth 100000 in
set_option maxHeartbeats 16000000 in
theorem replan_any (x : StR) (w : World) (hx : IsState w x) (hdr : x.dr.length = x.L.length) (hL : x.L.length < 20) (hbl : x.bg.length < 100000) (hpl : x.pd.length < 100000) :
    Calls Tryz.prog 22 #[stateV x] w fun e w' => ∃ y : ResM, e = .returned (.tuple #[resV y, .int .i64 (replanV (erSt x)).1]) ∧ y.r = (replanV (erSt x)).2 ∧ IsRes w' y ∧ SinceOf w w' := by
  obtain ⟨sx, A, c, L, gA, gc, bg, pA, pc, pd, dA, dc, dr⟩ := x
  simp only at hdr hL hbl hpl
  have hVA := fun (B' : Option Addr) (d' : Nat) (l : List SlotR) W (hW : SinceOf w W) (h1 : IsSlots W B' d' l) (h2 : l.length < 1073741824) (h3 : l.length ≤ d') => valid52_any sx A c L B' d' l W (hx.shop.of hW) (hx.jobs.of hW) h1 (by omega) h3
  have hcs : ∀ n, chosenTo (erSt ⟨sx, A, c, L, gA, gc, bg, pA, pc, pd, dA, dc, dr⟩) (n + 1) = if (validT sx L ((chosenTo (erSt ⟨sx, A, c, L, gA, gc, bg, pA, pc, pd, dA, dc, dr⟩) n).1 ++ [pd.getD n noSlot])).2 = 0 then ((chosenTo (erSt ⟨sx, A, c, L, gA, gc, bg, pA, pc, pd, dA, dc, dr⟩) n).1 ++ [pd.getD n noSlot], (chosenTo (erSt ⟨sx, A, c, L, gA, gc, bg, pA, pc, pd, dA, dc, dr⟩) n).2 ++ [(n : Int)]) else chosenTo (erSt ⟨sx, A, c, L, gA, gc, bg, pA, pc, pd, dA, dc, dr⟩) n := fun n => by
    show (if (validT (erS sx) (erL L) _).2 = 0 then _ else _) = _
    rw [validT_er]
    rfl
  have hc0 : chosenTo (erSt ⟨sx, A, c, L, gA, gc, bg, pA, pc, pd, dA, dc, dr⟩) 0 = (bg, []) := rfl
  have hcl := chosen_len (erSt ⟨sx, A, c, L, gA, gc, bg, pA, pc, pd, dA, dc, dr⟩)
  have hbgE : (erSt ⟨sx, A, c, L, gA, gc, bg, pA, pc, pd, dA, dc, dr⟩).bg = bg := rfl
  rw [hbgE] at hcl
  have hrv : replanV (erSt ⟨sx, A, c, L, gA, gc, bg, pA, pc, pd, dA, dc, dr⟩) = keepV (erSt ⟨sx, A, c, L, gA, gc, bg, pA, pc, pd, dA, dc, dr⟩) (chosenTo (erSt ⟨sx, A, c, L, gA, gc, bg, pA, pc, pd, dA, dc, dr⟩) pd.length).2 := rfl
  rw [hrv]
  have hKE := fun (B' : Option Addr) (d' : Nat) (kept : List Int) W (hW : SinceOf w W) (h1 : IsInts W B' d' kept) (h2 : kept.length < 1000000) => keep_any ⟨sx, A, c, L, gA, gc, bg, pA, pc, pd, dA, dc, dr⟩ B' d' kept W (hx.of hW) h1 h2 hdr hL (by show bg.length < 1000000; omega) (by show pd.length < 1000000; omega)
  simp only [stateV, hdr] at hKE
  generalize hPd : erSt ⟨sx, A, c, L, gA, gc, bg, pA, pc, pd, dA, dc, dr⟩ = P at *
  obtain ⟨ch, hch⟩ : ∃ ch, ch = chosenTo P := ⟨_, rfl⟩
  rw [← hch] at hcs hc0 hcl ⊢
  obtain ⟨i0, hi, hz0, hz1, hz2⟩ := info_parts infoSlot2
  obtain ⟨n0, ni, nz0, nz1, nz2⟩ := info_parts infoInt
  have HI := Lib.hid (And.intro hi (And.intro hz0 (And.intro hz1 hz2)))
  have NI := Lib.hid (And.intro ni (And.intro nz0 (And.intro nz1 nz2)))
  obtain ⟨sA, sc, cals, sB, sd, R, most⟩ := sx
  have H := Lib.hid (And.intro hx (And.intro hcs (And.intro hc0 (And.intro hcl (And.intro hVA hKE)))))
  have hll := hx.jobs.len
  show Calls Tryz.prog _ #[.agg #[.slice sA cals.length sc, .slice sB R.length sd, .int .i64 most, .slice A L.length c, .slice gA bg.length gc, .slice pA pd.length pc, .slice dA dr.length dc]] w _
  rw [hdr]
  clear hx hcs hc0 hcl hVA hKE hi hz0 hz1 hz2 ni nz0 nz1 nz2 hPd hch hrv hbgE hdr
  go_enter Tryz.func22, Tryz.ntmps22
  go_wp2_with fail
  refine (cloneS_any gA gc bg _ (H.out.1.bg.of Sx) (by omega)).mono ?_
  rintro e _ ⟨A0, c0, rfl, hA0, ⟨z0, rfl⟩⟩
  have H0 := Lib.hid hA0
  have hz0 := z0.size
  simp at hz0
  clear hA0
  go_wp2_with fail
  go_loopg [4, 5, 16] pd.length (fun gas s4 s5 s16 wr => ∃ (k : Nat) (C : Option Addr) (c1 : Nat) (K : Option Addr) (kc : Nat), k ≤ pd.length ∧ pd.length - k ≤ gas ∧ s4 = .slice K (ch k).2.length kc ∧ s5 = .slice C (ch k).1.length c1 ∧ s16 = .int .i64 k ∧ Owns encS 4 (w.heap.size + 1 + 1) 76 wr C c1 (ch k).1 ∧ Owns encN 1 (w.heap.size + 1 + 1) 3 wr K kc (ch k).2 ∧ SinceOf ((w.alloc (.cells #[.slice sA cals.length sc, .slice sB R.length sd, .int .i64 most, .slice A L.length c, .slice gA bg.length gc, .slice pA pd.length pc, .slice dA L.length dc] 42)).alloc (.cells #[.slice none 0 0, .slice none 0 0, .slice none 0 0] 61)) wr)
  case atStart => exact ⟨0, A0, c0, none, 0, by omega, by omega, by rw [H.out.2.2.1]; rfl, by rw [H.out.2.2.1], rfl, by rw [H.out.2.2.1]; exact H0.out.base_le (by simp), by rw [H.out.2.2.1]; exact Owns.nil _ _ _ _ _, Sx⟩
  case round =>
    obtain ⟨k, C, c1, K, kc, hk, hgas, rfl, rfl, rfl, hC, hK, ⟨z, rfl⟩⟩ := hrel
    by_cases hlt : k < pd.length
    · obtain ⟨gp, op, rfl, hrp⟩ := (H.out.1.pd.of (show SinceOf w z.wd from Sx)).at_ (by show 0 < pd.length; omega)
      have hOp := hrp.there
      have s0 := hrp.s0 k hlt
      have s1 := hrp.s1 k hlt
      have s2 := hrp.s2 k hlt
      have s3 := hrp.s3 k hlt
      have hst := H.out.2.1 k
      have hcl := H.out.2.2.2.1 k
      rw [getS_at hlt] at hst
      have hz := z.size
      simp at hz
      obtain ⟨l, hl⟩ : ∃ l, l = (ch k).1 := ⟨_, rfl⟩
      obtain ⟨kp, hkp⟩ : ∃ kp, kp = (ch k).2 := ⟨_, rfl⟩
      rw [← hl] at hC hst hcl ⊢
      rw [← hkp] at hK hst hcl ⊢
      have HLK := Lib.hid (And.intro hl hkp)
      clear hl hkp hrp
      generalize pd[k] = y at *
      obtain ⟨y0, y1, y2, y3⟩ := y
      simp only at s0 s1 s2 s3
      have VA := fun C4 d4 W => H.out.2.2.2.2.1 C4 d4 (l ++ [⟨y0, y1, y2, y3⟩]) W
      obtain ⟨⟨vi, ve⟩, hvt⟩ : ∃ vt, validT ⟨sA, sc, cals, sB, sd, R, most⟩ L (l ++ [⟨y0, y1, y2, y3⟩]) = vt := ⟨_, rfl⟩
      rw [hvt] at VA hst
      simp only [List.length_append, List.length_singleton] at VA
      have CS := fun W (hW : SinceOf z.wd W) => cloneS_any C c1 l W ((hC.isRow encS_len).of hW) (by omega)
      have HK := Lib.hid (And.intro hC (And.intro hK (And.intro hst hvt)))
      clear hC hK hst hvt
      go_upto_region 6 with fail
      go_cut [8, 9] (fun s8 s9 wx => s8 = .int .i64 vi ∧ s9 = .int .i64 ve ∧ SinceOf (z.wd.alloc (.cells #[.int .i64 y0, .int .i64 y1, .int .i64 y2, .int .i64 y3] 76)) wx)
      case first =>
        go_region_held3 (fun w' => w'.cell? ⟨w.heap.size, 0, none⟩ = some (.slice sA cals.length sc) ∧ w'.cell? ⟨w.heap.size, 1, none⟩ = some (.slice sB R.length sd) ∧ w'.cell? ⟨w.heap.size, 2, none⟩ = some (.int .i64 most) ∧ w'.cell? ⟨w.heap.size, 3, none⟩ = some (.slice A L.length c) ∧ w'.cell? ⟨z.wd.heap.size, 0, none⟩ = some (.int .i64 y0) ∧ w'.cell? ⟨z.wd.heap.size, 1, none⟩ = some (.int .i64 y1) ∧ w'.cell? ⟨z.wd.heap.size, 2, none⟩ = some (.int .i64 y2) ∧ w'.cell? ⟨z.wd.heap.size, 3, none⟩ = some (.int .i64 y3)) ((simp [go_sem, *]))
          (first
            | (go_at_call 51; refine (CS _ Sx).mono ?_; rintro e _ ⟨C2, d2, rfl, hC2, ⟨z4, rfl⟩⟩
               have s4 := z4.size
               (try simp at s4)
               have hC3 : Owns encS 4 (z.wd.heap.size + 1) 76 z4.wd C2 d2 l := hC2.base_le (by first | omega | (simp; done) | (simp; omega)))
            | (refine step_append_row rfl (.tmp 27) (.tmp 29) 39 rfl encS_len (by omega) encS_one i0 _ 32 Tryz.underlying39 HI.out.1 HI.out.2.1 HI.out.2.2.1 HI.out.2.2.2 rfl (l := l) (A := C2) (c := d2) (base := z.wd.heap.size + 1) ?hs ?own (m := [⟨y0, y1, y2, y3⟩]) rfl ?hm ?h63 ?hby ?hbase ?_
               case hs => rfl
               case own => first | exact hC3 | exact hC3.alloc _
               case hm => first
                 | exact rowS_at z4.wd _ ⟨y0, y1, y2, y3⟩ _ rfl
                 | (have q := rowS_at (z.wd.alloc (.cells #[.int .i64 y0, .int .i64 y1, .int .i64 y2, .int .i64 y3] 76)) _ ⟨y0, y1, y2, y3⟩ 76 rfl
                    rw [show (z.wd.alloc (.cells #[.int .i64 y0, .int .i64 y1, .int .i64 y2, .int .i64 y3] 76)).heap.size = z.wd.heap.size + 1 from by simp] at q
                    exact q.of Sx)
               case h63 => unfold maxLen; simp; omega
               case hby => simp; omega
               case hbase => first | omega | (simp; done) | (simp; omega)
               intro C4 d4 w4 hown4 hgr4 hb4
               have hcap4 := hown4.le_cap
               have hs5 : SinceOf (z.wd.alloc (.cells #[.int .i64 y0, .int .i64 y1, .int .i64 y2, .int .i64 y3] 76)) w4 := SinceOf.grown Sx hgr4 (fun q hq => by have h1 := (hC3.below q hq).1; (try simp); omega)
               have ho1 : Nonempty (Old w4 w.heap.size) := oldS_since hs5 (by infer_instance)
               have ho2 : Nonempty (Old w4 z.wd.heap.size) := oldS_since hs5 ⟨⟨by simp⟩⟩
               have hx0 : w4.cell? ⟨w.heap.size, 0, none⟩ = some (.slice sA cals.length sc) := by obtain ⟨yy, hy⟩ := hs5; rw [hy, Since.cell]; simp [go_sem]
               have hx1 : w4.cell? ⟨w.heap.size, 1, none⟩ = some (.slice sB R.length sd) := by obtain ⟨yy, hy⟩ := hs5; rw [hy, Since.cell]; simp [go_sem]
               have hx2 : w4.cell? ⟨w.heap.size, 2, none⟩ = some (.int .i64 most) := by obtain ⟨yy, hy⟩ := hs5; rw [hy, Since.cell]; simp [go_sem]
               have hx3 : w4.cell? ⟨w.heap.size, 3, none⟩ = some (.slice A L.length c) := by obtain ⟨yy, hy⟩ := hs5; rw [hy, Since.cell]; simp [go_sem]
               have hx4 : w4.cell? ⟨z.wd.heap.size, 0, none⟩ = some (.int .i64 y0) := by obtain ⟨yy, hy⟩ := hs5; rw [hy, Since.cell]; simp [go_sem]
               have hx5 : w4.cell? ⟨z.wd.heap.size, 1, none⟩ = some (.int .i64 y1) := by obtain ⟨yy, hy⟩ := hs5; rw [hy, Since.cell]; simp [go_sem]
               have hx6 : w4.cell? ⟨z.wd.heap.size, 2, none⟩ = some (.int .i64 y2) := by obtain ⟨yy, hy⟩ := hs5; rw [hy, Since.cell]; simp [go_sem]
               have hx7 : w4.cell? ⟨z.wd.heap.size, 3, none⟩ = some (.int .i64 y3) := by obtain ⟨yy, hy⟩ := hs5; rw [hy, Since.cell]; simp [go_sem])
            | (go_at_call 28; refine (VA C4 d4 w4 (SinceOf.trans Sx hs5) (hown4.isRow encS_len) (by omega) (by simpa using hcap4)).calls.mono ?_; rintro e _ ⟨rfl, z6, rfl⟩))
        all_goals go_wp2_with fail
        all_goals go_meet
        all_goals exact ⟨rfl, rfl, Sx⟩
      case rest =>
        obtain ⟨rfl, rfl, ⟨z7, rfl⟩⟩ := hcut
        have hz7 := z7.size
        simp at hz7
        clear CS VA
        by_cases hve : ve = 0
        · subst hve
          have hch : (ch (k + 1)).2 = kp ++ [(k : Int)] ∧ (ch (k + 1)).1 = l ++ [⟨y0, y1, y2, y3⟩] := by rw [HK.out.2.2.1, if_pos rfl]; exact ⟨rfl, rfl⟩
          have HC := Lib.hid hch
          clear hch
          go_wp2_with (first
            | (at_builtin; refine wpList_append_row rfl (.tmp 36) (.tmp 38) 39 rfl encS_len (by omega) encS_one i0 _ 32 Tryz.underlying39 HI.out.1 HI.out.2.1 HI.out.2.2.1 HI.out.2.2.2 rfl (l := l) (A := C) (c := c1) (base := w.heap.size + 1 + 1) rfl (HK.out.1.of Sx) (m := [⟨y0, y1, y2, y3⟩]) rfl (rowS_at _ _ ⟨y0, y1, y2, y3⟩ _ (by first | rfl | simp)) (by unfold maxLen; simp; omega) (by simp; omega) (by simp; omega) ?_; intro E3 f3 w3 hown3 hgr3 hbl3; have SB : SameBut [76] z.wd w3 := (SameBut.since Sx).trans (SameBut.grown hgr3 (fun g5 hg5 => by obtain ⟨cur, hc⟩ := HK.out.1.typed g5 hg5; exact ⟨cur, _, _, List.mem_singleton.2 rfl, SameBut.since (es := []) Sx g5 cur _ _ (by simp) hc⟩)); have hK3 := HK.out.2.1.sameBut (by simp) SB; have hs3 : SinceOf ((w.alloc (.cells #[.slice sA cals.length sc, .slice sB R.length sd, .int .i64 most, .slice A L.length c, .slice gA bg.length gc, .slice (some ⟨gp, op, none⟩) pd.length pc, .slice dA L.length dc] 42)).alloc (.cells #[.slice none 0 0, .slice none 0 0, .slice none 0 0] 61)) w3 := SinceOf.grown Sx hgr3 (fun q2 hq2 => by have := (HK.out.1.below q2 hq2).1; simp; omega); have hsz3 := hgr3.size; (try simp at hsz3))
            | (at_builtin; refine wpList_append_row rfl (.tmp 40) (.tmp 42) 57 rfl encN_len (by omega) encN_one n0 _ 8 Tryz.underlying57 NI.out.1 NI.out.2.1 NI.out.2.2.1 NI.out.2.2.2 rfl (l := kp) (A := K) (c := kc) (base := w.heap.size + 1 + 1) rfl (hK3.of Sx) (m := [(k : Int)]) rfl (rowN_at _ _ _ _ (by first | rfl | simp)) (by unfold maxLen; simp; omega) (by simp; omega) (by simp; omega) ?_; intro E4 f4 w5 hown4 hgr4 hbl4; have SB2 : SameBut [3] w3 w5 := (SameBut.since Sx).trans (SameBut.grown hgr4 (fun g5 hg5 => by obtain ⟨cur, hc⟩ := hK3.typed g5 hg5; exact ⟨cur, _, _, List.mem_singleton.2 rfl, SameBut.since (es := []) Sx g5 cur _ _ (by simp) hc⟩))))
          go_roundg (pd.length - (k + 1))
          case measure => omega
          case rel =>
            refine ⟨k + 1, E3, f3, E4, f4, hlt, Nat.le_refl _, by rw [HC.out.1, List.length_append]; rfl, by rw [HC.out.2, List.length_append]; rfl, by go_num, by rw [HC.out.2]; exact hown3.sameBut (by simp) SB2, by rw [HC.out.1]; exact hown4, ?_⟩
            refine SinceOf.grown Sx hgr4 (fun q2 hq2 => ?_)
            have := (HK.out.2.1.below q2 hq2).1
            simp
            omega
        · have hve2 : (ve == 0) = false := by simpa using hve
          have hch : (ch (k + 1)).2 = kp ∧ (ch (k + 1)).1 = l := by rw [HK.out.2.2.1, if_neg hve]; exact ⟨HLK.out.2.symm, HLK.out.1.symm⟩
          have HC := Lib.hid hch
          clear hch hve
          go_wp2_with fail
          go_roundg (pd.length - (k + 1))
          case measure => omega
          case rel => exact ⟨k + 1, C, c1, K, kc, hlt, Nat.le_refl _, by rw [HC.out.1], by rw [HC.out.2], by go_num, by rw [HC.out.2]; exact HK.out.1.of Sx, by rw [HC.out.1]; exact HK.out.2.1.of Sx, Sx⟩
    · have hkl : k = pd.length := by omega
      have hcl := H.out.2.2.2.1 k
      have KE := H.out.2.2.2.2.2 K kc (ch k).2
      rw [hkl] at hC hK hcl KE ⊢
      obtain ⟨kp, hkp⟩ : ∃ kp, (ch pd.length).2 = kp := ⟨_, rfl⟩
      rw [hkp] at hK hcl KE ⊢
      have HKP := Lib.hid hkp
      have HK := Lib.hid (hK.isRow encN_len)
      clear hC hK hkl hkp
      go_wp2_with fail
      refine (KE _ Sx (HK.out.of Sx) (by omega)).mono ?_
      rintro e w' ⟨⟨⟨sl, mvd, lf⟩, yA, yc, ymA, ymc, ylA, ylc⟩, rfl, hy, hr, hf, ⟨z9, rfl⟩⟩
      have hz := z.size
      simp at hz
      have HY := Lib.hid (And.intro hy (And.intro hr hf))
      clear hy hr hf
      go_wp2_with fail
      go_returns
      have n1 : ∀ b, blockOf yA = some b → b ≠ w.heap.size + 1 := fun b hb => by have := HY.out.2.2.1 b hb; omega
      have n2 : ∀ b, blockOf ymA = some b → b ≠ w.heap.size + 1 := fun b hb => by have := HY.out.2.2.2.1 b hb; omega
      have n3 : ∀ b, blockOf ylA = some b → b ≠ w.heap.size + 1 := fun b hb => by have := HY.out.2.2.2.2 b hb; omega
      refine ⟨⟨⟨sl, mvd, lf⟩, yA, yc, ymA, ymc, ylA, ylc⟩, by first | rfl | rw [HKP.out], by first | exact HY.out.1 | (rw [HKP.out]; exact HY.out.1), ⟨?_, ?_, ?_, HY.out.2.1.cap⟩, ?_⟩
      · exact ((HY.out.2.1.slots.setOther _ _ _ n1).setOther _ _ _ n1).setOther _ _ _ n1
      · exact ((HY.out.2.1.moved.setOther _ _ _ n2).setOther _ _ _ n2).setOther _ _ _ n2
      · exact ((HY.out.2.1.left.setOther _ _ _ n3).setOther _ _ _ n3).setOther _ _ _ n3
      · exact SinceOf.setCell (SinceOf.setCell (SinceOf.setCell (show SinceOf w z9.wd from Sx) (show w.heap.size ≤ w.heap.size + 1 by omega) _) (show w.heap.size ≤ w.heap.size + 1 by omega) _) (show w.heap.size ≤ w.heap.size + 1 by omega) _
end Go.Proofs.YtpaojgfmffkodaaGreat
/- Layer 54: cmp.Or of two; the order of pending slots. -/
namespace Go.Proofs.YtpaojgfmffkodaaGreat
set_option linter.unusedVariables false
set_option linter.unusedSimpArgs false
open Go.RowKit Go.Sort
attribute [local go_sem ↓] Go.wp_at_zero Go.wp_at_succ
def or2 (a b : Int) : Int := if a = 0 then b else a
theorem cmpOr2_any (a b : Int) (g c : Nat) (w : World) (h0 : w.cell? ⟨g, 0, none⟩ = some (.int .i64 a)) (h1 : w.cell? ⟨g, 1, none⟩ = some (.int .i64 b)) :
    Calls Tryz.prog 39 #[.slice (some ⟨g, 0, none⟩) 2 c] w fun e w' => e = .returned (.int .i64 (or2 a b)) ∧ w = w' := by
  by_cases ha : a = 0
  · subst ha
    by_cases hb : b = 0
    · subst hb
      go_enter Tryz.func39, Tryz.ntmps39
      go_wp2
      go_rounds 3
      go_returns
      exact ⟨by simp [or2], rfl⟩
    · go_enter Tryz.func39, Tryz.ntmps39
      go_wp2
      go_rounds 3
      go_returns
      exact ⟨by simp [or2], rfl⟩
  · go_enter Tryz.func39, Tryz.ntmps39
    go_wp2
    go_rounds 3
    go_returns
    exact ⟨by simp [or2, ha], rfl⟩
def cmpS (a b : SlotR) : Int := or2 (cmpi a.start b.start) (cmpi a.job b.job)
set_option maxRecDepth 100000 in
set_option maxHeartbeats 4000000 in
theorem applyCmp_any (x y : SlotR) (w : World) (v : Value) : Gives Tryz.prog 38 #[slotV x, slotV y] w (.int .i64 (cmpS x y)) := by
  apply Gives.ret
  obtain ⟨x0, x1, x2, x3⟩ := x
  obtain ⟨y0, y1, y2, y3⟩ := y
  show Calls _ _ _ _ _
  go_enter Tryz.func38, Tryz.ntmps38
  go_wp2_with fail
  go_region_held3 (fun w' => w'.cell? ⟨w.heap.size, 0, none⟩ = some (.int .i64 x0) ∧ w'.cell? ⟨w.heap.size, 2, none⟩ = some (.int .i64 x2) ∧ w'.cell? ⟨w.heap.size + 1, 0, none⟩ = some (.int .i64 y0) ∧ w'.cell? ⟨w.heap.size + 1, 2, none⟩ = some (.int .i64 y2)) ((simp [go_sem, *]))
    (first
      | (go_at_call 40; refine (cmpInt_any _ _ _).mono ?_; rintro e w' ⟨rfl, rfl⟩)
      | (go_at_call 39; refine (cmpOr2_any (cmpi x2 y2) (cmpi x0 y0) _ _ _ (by simp [go_sem]) (by simp [go_sem])).mono ?_; rintro e w' ⟨rfl, rfl⟩))
  all_goals
    go_wp2_with fail
    go_returns
    exact ⟨rfl, Lx⟩
theorem ltS (a b : SlotR) : ltOf cmpS a b = true ↔ a.start < b.start ∨ (a.start = b.start ∧ a.job < b.job) := by
  unfold ltOf cmpS or2 cmpi
  simp only [decide_eq_true_eq]
  repeat' split
  all_goals omega
theorem swoS : SWO (ltOf cmpS) where
  irrefl x := by unfold ltOf cmpS or2 cmpi; simp
  trans x y z h1 h2 := by
    rw [ltS] at *
    omega
  ntrans x y z h1 h2 := by
    have k1 : ¬ (ltOf cmpS x y = true) := by rw [h1]; simp
    have k2 : ¬ (ltOf cmpS y z = true) := by rw [h2]; simp
    rw [ltS] at k1 k2
    cases h : ltOf cmpS x z with
    | false => rfl
    | true =>
      have := (ltS x z).1 h
      omega
end Go.Proofs.YtpaojgfmffkodaaGreat
/- Layer 54: better. -/
namespace Go.Proofs.YtpaojgfmffkodaaGreat
set_option linter.unusedVariables false
set_option linter.unusedSimpArgs false
open Go.RowKit Go.Sort
attribute [local go_sem ↓] Go.wp_at_zero Go.wp_at_succ
def lensC (a b : ResR) : Int := or2 (cmpi a.left.length b.left.length) (cmpi a.moved.length b.moved.length)
theorem better_lens (L : List JobR) (a b : ResR) : betterB L a b = if lensC a b = 0 then costQ L a.slots b.slots else decide (lensC a b < 0) := by
  unfold betterB lensC or2
  rcases cmpi_cases (a.left.length : Int) b.left.length with ⟨h1, h2⟩ | ⟨h0, h1, h2⟩ | ⟨h0, h1, h2⟩ <;> rw [h2]
  · rw [if_pos (show a.left.length ≠ b.left.length by omega), if_neg (show ¬ ((if (-1 : Int) = 0 then cmpi (a.moved.length : Int) b.moved.length else -1) = 0) by simp), if_neg (by decide)]
    simp; omega
  · rw [if_pos (show a.left.length ≠ b.left.length by omega), if_neg (show ¬ ((if (1 : Int) = 0 then cmpi (a.moved.length : Int) b.moved.length else 1) = 0) by simp), if_neg (by decide)]
    simp; omega
  · rw [if_neg (show ¬ a.left.length ≠ b.left.length by omega), if_pos rfl]
    rcases cmpi_cases (a.moved.length : Int) b.moved.length with ⟨h3, h4⟩ | ⟨h5, h3, h4⟩ | ⟨h5, h3, h4⟩ <;> rw [h4]
    · rw [if_pos (show a.moved.length ≠ b.moved.length by omega), if_neg (by decide)]
      simp; omega
    · rw [if_pos (show a.moved.length ≠ b.moved.length by omega), if_neg (by decide)]
      simp; omega
    · rw [if_neg (show ¬ a.moved.length ≠ b.moved.length by omega), if_pos rfl]
set_option maxRecDepth 100000 in
set_option maxHeartbeats 8000000 in
theorem better_any (x : StR) (a b : ResM) (w : World) (hx : IsState w x) (ha : IsRes w a) (hb : IsRes w b) (hc : checkS x.s x.L = true) (hL : x.L.length < 1000000) (ga : GoodS x.s x.L a.r.slots) (gb : GoodS x.s x.L b.r.slots) (la : a.r.slots.length < 1000000) (lb : b.r.slots.length < 1000000) :
    Yields Tryz.prog 60 #[stateV x, resV a, resV b] w (.bool (betterB x.L a.r b.r)) := by
  apply Yields.ret
  rw [better_lens]
  have hdue : ∀ j ∈ x.L, 0 ≤ j.due ∧ j.due ≤ 1000000 := fun j hj => (job_parts (check_job hc hj)).2.2.2.2.2.1
  have PA := fun W (hW : SinceOf w W) => price_any x.A x.c x.L a.A a.c a.r.slots W (hx.jobs.of hW) (by omega) hdue (ha.slots.of hW) (by omega) (good_stop ga)
  have PB := fun W (hW : SinceOf w W) => price_any x.A x.c x.L b.A b.c b.r.slots W (hx.jobs.of hW) (by omega) hdue (hb.slots.of hW) (by omega) (good_stop gb)
  have LE := fun W => schLess_any (priceV x.L a.r.slots).job (priceV x.L a.r.slots).mach (priceV x.L a.r.slots).start (priceV x.L a.r.slots).stop (priceV x.L b.r.slots).job (priceV x.L b.r.slots).mach (priceV x.L b.r.slots).start (priceV x.L b.r.slots).stop W
  have hcq : costQ x.L a.r.slots b.r.slots = lessC (priceV x.L a.r.slots).job (priceV x.L a.r.slots).mach (priceV x.L a.r.slots).start (priceV x.L a.r.slots).stop (priceV x.L b.r.slots).job (priceV x.L b.r.slots).mach (priceV x.L b.r.slots).start (priceV x.L b.r.slots).stop := rfl
  rw [← hcq] at LE
  obtain ⟨⟨sA, sc, cals, sB, sd, R, most⟩, A, c, L, gA, gc, bg, pA, pc, pd, dA, dc, dr⟩ := x
  obtain ⟨⟨s1, m1, l1⟩, a1, c1, a2, c2, a3, c3⟩ := a
  obtain ⟨⟨s2, m2, l2⟩, b1, e1, b2, e2, b3, e3⟩ := b
  simp only at PA PB LE hL
  have hlc : lensC ⟨s1, m1, l1⟩ ⟨s2, m2, l2⟩ = or2 (cmpi l1.length l2.length) (cmpi m1.length m2.length) := rfl
  rw [hlc]
  simp only
  generalize priceV L s1 = p at *
  generalize priceV L s2 = q at *
  generalize costQ L s1 s2 = cq at *
  obtain ⟨p0, p1, p2, p3⟩ := p
  obtain ⟨q0, q1, q2, q3⟩ := q
  simp only at LE
  have hl1 : l1.length < 4611686018427387904 ∨ True := .inr trivial
  clear hx ha hb hc ga gb hdue hcq hlc hl1
  have hcase : or2 (cmpi l1.length l2.length) (cmpi m1.length m2.length) = 0 ∨ (or2 (cmpi l1.length l2.length) (cmpi m1.length m2.length) != 0) = true := by
    by_cases h : or2 (cmpi l1.length l2.length) (cmpi m1.length m2.length) = 0
    · exact .inl h
    · exact .inr (by simpa using h)
  obtain ⟨o, ho⟩ : ∃ o, o = or2 (cmpi l1.length l2.length) (cmpi m1.length m2.length) := ⟨_, rfl⟩
  rw [← ho] at hcase ⊢
  obtain ⟨res, hres⟩ : ∃ r, r = if o = 0 then cq else decide (o < 0) := ⟨_, rfl⟩
  rw [← hres]
  have HO := Lib.hid ho
  have HR := Lib.hid hres
  clear ho hres
  go_enter Tryz.func60, Tryz.ntmps60
  go_wp2_with fail
  go_region_held3 (fun w' => w'.cell? ⟨w.heap.size, 3, none⟩ = some (.slice A L.length c) ∧ w'.cell? ⟨w.heap.size + 1, 0, none⟩ = some (.slice a1 s1.length c1) ∧ w'.cell? ⟨w.heap.size + 1, 1, none⟩ = some (.slice a2 m1.length c2) ∧ w'.cell? ⟨w.heap.size + 1, 2, none⟩ = some (.slice a3 l1.length c3) ∧ w'.cell? ⟨w.heap.size + 1 + 1, 0, none⟩ = some (.slice b1 s2.length e1) ∧ w'.cell? ⟨w.heap.size + 1 + 1, 1, none⟩ = some (.slice b2 m2.length e2) ∧ w'.cell? ⟨w.heap.size + 1 + 1, 2, none⟩ = some (.slice b3 l2.length e3)) ((simp [go_sem, *]))
    (first
      | (go_at_call 40; refine (cmpInt_any _ _ _).mono ?_; rintro e w' ⟨rfl, rfl⟩)
      | (go_at_call 39; refine (cmpOr2_any (cmpi l1.length l2.length) (cmpi m1.length m2.length) _ _ _ (by simp [go_sem]) (by simp [go_sem])).mono ?_; rintro e w' ⟨rfl, rfl⟩; rw [← HO.out]))
  all_goals
    rcases hcase with h | h
    · have hr : res = cq := by rw [HR.out, if_pos h]
      subst hr
      go_wp2_with fail
      go_region_held3 (fun w' => w'.cell? ⟨w.heap.size, 3, none⟩ = some (.slice A L.length c) ∧ w'.cell? ⟨w.heap.size + 1, 0, none⟩ = some (.slice a1 s1.length c1) ∧ w'.cell? ⟨w.heap.size + 1 + 1, 0, none⟩ = some (.slice b1 s2.length e1)) ((simp [go_sem, *]))
        (first
          | (go_at_call 96; (with_reducible refine (PA _ Sx).calls.mono ?_); rintro e _ ⟨rfl, z6, rfl⟩)
          | (go_at_call 96; (with_reducible refine (PB _ Sx).calls.mono ?_); rintro e _ ⟨rfl, z7, rfl⟩)
          | (go_at_call 95; refine (LE _).calls.mono ?_; rintro e _ ⟨rfl, z1, rfl⟩))
      all_goals
        go_wp2_with fail
        go_returns
        exact ⟨rfl, Sx⟩
    · have hr : res = decide (o < 0) := by rw [HR.out, if_neg (by simpa using h)]
      subst hr
      go_wp2_with fail
      go_returns
      exact ⟨rfl, Sx⟩
end Go.Proofs.YtpaojgfmffkodaaGreat
