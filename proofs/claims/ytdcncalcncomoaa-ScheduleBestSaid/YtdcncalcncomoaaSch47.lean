/- Layer 52 (the reference): dispatch. -/
import Derived.Test.YtdcncalcncomoaaSch44
import Derived.Test.YtdcncalcncomoaaSch45
import Derived.Deep.RegionHeld3
namespace Go.Proofs.Ytdcncalcncomoaa
open Go.RowKit Go.Sort
set_option linter.unusedVariables false
attribute [local go_sem ↓] Go.wp_at_zero Go.wp_at_succ

theorem find_drop {α : Type} (p : α → Bool) {l : List α} {k : Nat} (h : k < l.length) : (l.drop k).find? p = if p l[k] = true then some l[k] else (l.drop (k + 1)).find? p := by
  rw [List.drop_eq_getElem_cons h, List.find?_cons]
  cases p l[k] <;> rfl
theorem ownsS_empty (W : World) (b : Nat) (hb : b ≤ W.heap.size) : Owns encS 4 b 46 (W.alloc (.cells #[] 46)) (some ⟨W.heap.size, 0, none⟩) 0 [] :=
  World.ownsRow_lit (base := b) (e := 46) (size := 4) W #[] 0 hb (Nat.zero_le _) rfl
theorem rowS_one (W : World) (x : SlotR) : RowAt encS 4 (W.alloc (.cells #[.int .i64 x.job, .int .i64 x.mach, .int .i64 x.start, .int .i64 x.stop] 46)) W.heap.size 0 [x] := by
  obtain ⟨g, off, e, h⟩ := (rowS_at W W.heap.size x 46 rfl).at_ (by simp)
  injection e with e
  injection e with e1 e2
  subst e1 e2
  exact h
theorem fits_true {s : ShopR} {L : List JobR} {l : List SlotR} {jb m u fe : Int} (hc : checkS s L = true) (h : finishAt s m u (jobAt L jb).dur = (fe, 0)) (hv : (validT s L (l ++ [⟨jb, m, u, fe⟩])).2 = 0) : fitsB s L l jb m u = true := by
  unfold fitsB slotAt
  rw [h]
  unfold validT at hv
  rw [if_pos hc] at hv
  simpa using hv
theorem fits_false {s : ShopR} {L : List JobR} {l : List SlotR} {jb m u fe : Int} (hc : checkS s L = true) (h : finishAt s m u (jobAt L jb).dur = (fe, 0)) (hv : ¬ (validT s L (l ++ [⟨jb, m, u, fe⟩])).2 = 0) : fitsB s L l jb m u = false := by
  unfold fitsB slotAt
  rw [h]
  unfold validT at hv
  rw [if_pos hc] at hv
  simpa using hv
theorem fits_no {s : ShopR} {L : List JobR} {l : List SlotR} {jb m u : Int} (h : ¬ (finishAt s m u (jobAt L jb).dur).2 = 0) : fitsB s L l jb m u = false := by
  unfold fitsB
  rw [show ((finishAt s m u (jobAt L jb).dur).2 == 0) = false by simpa using h]
  rfl
theorem cell_since {w w' : World} (h : SinceOf w w') {g i : Nat} {u : Value} [Nonempty (Old w g)] (hc : w.cell? ⟨g, i, none⟩ = some u) : w'.cell? ⟨g, i, none⟩ = some u := by
  obtain ⟨y, rfl⟩ := h
  rw [Since.cell]
  exact hc
theorem oldS_since {w w' : World} (h : SinceOf w w') {g : Nat} (ho : Nonempty (Old w g)) : Nonempty (Old w' g) := by
  obtain ⟨y, rfl⟩ := h
  infer_instance
theorem candV_length (s : ShopR) (L : List JobR) (l : List SlotR) (jb m : Int) : (candV s L l jb m).length ≤ l.length + 1 := by
  unfold candV
  split
  · simp
  · rename_i b _
    have h1 := candTo_length s m (b :: endsOf b l) (b :: endsOf b l).length (Nat.le_refl _)
    have h2 := endsOf_le b l
    unfold candTo at h1
    rw [List.take_length] at h1
    unfold candL
    simp only [List.length_cons] at h1
    omega
set_option maxRecDepth 100000 in
set_option maxHeartbeats 16000000 in
theorem refDispatch_any (s : ShopR) (A : Option Addr) (c : Nat) (L : List JobR) (B : Option Addr) (d : Nat) (l : List SlotR) (jb : Nat) (w : World) (hs : IsShop w s) (h : IsJobs w A c L) (hc : checkS s L = true) (hl : IsSlots w B d l) (hll : l.length < 1073741824) (hn : NamedS s L l) (hjb : jb < L.length) :
    Yields Try.prog 32 #[shopV s, .slice A L.length c, .slice B l.length d, .int .i64 jb] w (slotOpt (dispatchV s L l jb)) := by
  apply Yields.ret
  have gp := check_good hc
  have hmc := check_machs hc
  have CA := fun (m : Nat) (hm : m < s.cals.length) W (hW : SinceOf w W) => refCand_any s A c L B d l jb m W (hs.of hW) (h.of hW) gp (hl.of hW) hll hn hjb hm
  have VA := fun (x : SlotR) B' d' W (hW : SinceOf w W) (hx : IsSlots W B' d' (l ++ [x])) (hd : (l ++ [x]).length ≤ d') => refValid52_any s A c L B' d' (l ++ [x]) W (hs.of hW) (h.of hW) hx (by simp; omega) hd
  have hjl := h.len
  have hcl := hs.cals.len
  have hrel := (job_parts (check_job hc (List.getElem_mem hjb))).2.2.2.2.1.1
  rw [← jobAt_at hjb] at hrel
  obtain ⟨gj, oj, hAj, hrj⟩ := h.row.at_ (by omega)
  have hOj := hrj.there
  have i0 := hrj.j0 jb hjb
  have i1 := hrj.j1 jb hjb
  have hms := h.all _ (List.getElem_mem hjb)
  have hmr := hmc _ (List.getElem_mem hjb)
  have em : (jobAt L jb).ms = L[jb].ms := by rw [jobAt_at hjb]
  have ed : (jobAt L jb).dur = L[jb].dur := by rw [jobAt_at hjb]
  have FT := fun (m u fe : Int) => fits_true (s := s) (L := L) (l := l) (jb := jb) (m := m) (u := u) (fe := fe) hc
  have FF := fun (m u fe : Int) => fits_false (s := s) (L := L) (l := l) (jb := jb) (m := m) (u := u) (fe := fe) hc
  have FN := fun (m u : Int) => fits_no (s := s) (L := L) (l := l) (jb := jb) (m := m) (u := u)
  have ON := fun m : Int => onV_cand (s := s) (L := L) (l := l) (jb := jb) (m := m) hrel
  rw [ed] at FT FF FN
  have hst : ∀ m u : Int, slotAt s L jb m u = ⟨jb, m, u, (finishAt s m u L[jb].dur).1⟩ := fun m u => by unfold slotAt; rw [ed]
  obtain ⟨res, hres⟩ : ∃ v, v = dispatchV s L l jb := ⟨_, rfl⟩
  rw [← hres]
  unfold dispatchV at hres
  rw [em] at hres
  obtain ⟨ti, ni, nz0, nz1, nz2⟩ := info_parts infoSlotR
  have HI := Lib.hid (And.intro ni (And.intro nz0 (And.intro nz1 nz2)))
  have hcals := hs.cals
  obtain ⟨sA, sc, cals, sB, sd, R, most⟩ := s
  simp only at *
  have hef : ∀ (m : Nat) (hm : m < cals.length) (u k : Int), finishAt ⟨sA, sc, cals, sB, sd, R, most⟩ m u k = finishV cals[m].P cals[m].S cals[m].D u k := fun m hm u k => by unfold finishAt; rw [calAt_at hm]
  have hpos : L[jb].ms ≠ [] → 0 < cals.length := by
    intro hne
    obtain ⟨x, hx⟩ := List.exists_mem_of_ne_nil _ hne
    have := hmr x hx
    omega
  subst hAj
  generalize L[jb].ms = ms at *
  generalize L[jb].dur = dur at *
  have hml := hms.2
  have H := Lib.hid (And.intro hms (And.intro hmr (And.intro hres (And.intro CA (And.intro VA (And.intro hef (And.intro hpos hcals)))))))
  have HF := Lib.hid (And.intro hl (And.intro FT (And.intro FF (And.intro FN (And.intro ON hst)))))
  clear hs h gp hc hmc hl hn hms hmr hres CA VA FT FF FN ON hst hrj em ed hrel hef hpos hcals ni nz0 nz1 nz2
  go_enter Try.func32, Try.ntmps32
  go_wp2_with fail
  go_loopg [11, 12] ms.length (fun gas s11 s12 wr => ∃ (k : Nat) (best : Option SlotR), k ≤ ms.length ∧ ms.length - k ≤ gas ∧ s11 = .bool best.isSome ∧ s12 = .int .i64 k ∧ SinceOf ((w.alloc (.cells #[.slice sA cals.length sc, .slice sB R.length sd, .int .i64 most] 25)).alloc (.cells #[.int .i64 0, .int .i64 0, .int .i64 0, .int .i64 0] 46)) wr ∧ SlotW wr (w.heap.size + 1 + 1) (slotOr best) ∧
    best = (ms.take k).foldl (fun best m => betterS best (onV ⟨sA, sc, cals, sB, sd, R, most⟩ L l jb m)) none)
  case atStart => exact ⟨0, none, by omega, by omega, rfl, rfl, by (repeat (first | (with_reducible exact SinceOf.refl _) | (with_reducible assumption) | (with_reducible refine SinceOf.alloc ?_ _) | (with_reducible refine SinceOf.drew ?_) | (with_reducible refine SinceOf.drewN ?_ _) | (with_reducible refine SinceOf.later ?_ _) | (with_reducible refine SinceOf.further ?_ _) | (with_reducible refine SinceOf.setCell ?_ (by first | exact Nat.le_refl _ | (simp; done) | omega | (simp; omega)) _))), ⟨by simp [go_sem, slotOr], by simp [go_sem, slotOr], by simp [go_sem, slotOr], by simp [go_sem, slotOr], by simp [go_sem], by simp [go_sem], by simp [go_sem], by simp [go_sem], inferInstance⟩, by simp⟩
  case round =>
    obtain ⟨k, best, hk, hgas, rfl, rfl, ⟨z, rfl⟩, hb, hbe⟩ := hrel
    by_cases hlt : k < ms.length
    · have hsn := foldl_at (fun best m => betterS best (onV ⟨sA, sc, cals, sB, sd, R, most⟩ L l jb m)) none hlt
      rw [← hbe] at hsn
      obtain ⟨hm0, hm1⟩ := H.out.2.1 _ (List.getElem_mem hlt)
      obtain ⟨mN, hmN⟩ : ∃ q : Nat, ms[k] = q := ⟨ms[k].toNat, by omega⟩
      have hmN1 : mN < cals.length := by omega
      rw [hmN, HF.out.2.2.2.2.1] at hsn
      have CK := H.out.2.2.2.1 mN hmN1
      obtain ⟨gm, om, hAm, hrm⟩ := (H.out.1.1.of (show SinceOf w z.wd by (repeat (first | (with_reducible exact SinceOf.refl _) | (with_reducible assumption) | (with_reducible refine SinceOf.alloc ?_ _) | (with_reducible refine SinceOf.drew ?_) | (with_reducible refine SinceOf.drewN ?_ _) | (with_reducible refine SinceOf.later ?_ _) | (with_reducible refine SinceOf.further ?_ _) | (with_reducible refine SinceOf.setCell ?_ (by first | exact Nat.le_refl _ | (simp; done) | omega | (simp; omega)) _))))).at_ (by omega)
      have hOm := hrm.there
      have n0 := hrm.n0 k hlt
      rw [hmN] at n0
      obtain ⟨gc, oc, hAc, hrc⟩ := H.out.2.2.2.2.2.2.2.row.at_ (by omega)
      have hOc := hrc.there
      have c0 := hrc.k0 mN hmN1
      have c1 := hrc.k1 mN hmN1
      have c2 := hrc.k2 mN hmN1
      have HB := Lib.hid (And.intro hb (And.intro hbe hsn))
      obtain ⟨b0, b1, b2, b3, e0, e1, e2, e3, hO2⟩ := hb
      clear hbe hsn hrm hmN hm0 hm1 hrc
      generalize L[jb].A = Am at *
      subst hAm hAc
      go_wp2_with fail
      (with_reducible refine (CK _ (by (repeat (first | (with_reducible exact SinceOf.refl _) | (with_reducible assumption) | (with_reducible refine SinceOf.alloc ?_ _) | (with_reducible refine SinceOf.drew ?_) | (with_reducible refine SinceOf.drewN ?_ _) | (with_reducible refine SinceOf.later ?_ _) | (with_reducible refine SinceOf.further ?_ _) | (with_reducible refine SinceOf.setCell ?_ (by first | exact Nat.le_refl _ | (simp; done) | omega | (simp; omega)) _))))).mono ?_)
      rintro e _ ⟨A5, c5, rfl, hrow, ⟨x1, rfl⟩⟩
      have hcsl := candV_length ⟨some ⟨gc, oc, none⟩, sc, cals, sB, sd, R, most⟩ L l jb mN
      generalize candV ⟨some ⟨gc, oc, none⟩, sc, cals, sB, sd, R, most⟩ L l jb mN = cs at *
      have HR := Lib.hid hrow
      clear hrow CK
      go_wp2_with fail
      go_loopg [11, 15] cs.length (fun gas s11 s15 wr => ∃ i : Nat, i ≤ cs.length ∧ cs.length - i ≤ gas ∧ s11 = .bool best.isSome ∧ s15 = .int .i64 i ∧ SinceOf x1.wd wr ∧ cs.find? (fitsB ⟨some ⟨gc, oc, none⟩, sc, cals, sB, sd, R, most⟩ L l jb mN) = (cs.drop i).find? (fitsB ⟨some ⟨gc, oc, none⟩, sc, cals, sB, sd, R, most⟩ L l jb mN))
      case atStart => exact ⟨0, by omega, by omega, rfl, rfl, by (repeat (first | (with_reducible exact SinceOf.refl _) | (with_reducible assumption) | (with_reducible refine SinceOf.alloc ?_ _) | (with_reducible refine SinceOf.drew ?_) | (with_reducible refine SinceOf.drewN ?_ _) | (with_reducible refine SinceOf.later ?_ _) | (with_reducible refine SinceOf.further ?_ _) | (with_reducible refine SinceOf.setCell ?_ (by first | exact Nat.le_refl _ | (simp; done) | omega | (simp; omega)) _))), by rw [List.drop_zero]⟩
      case round =>
        obtain ⟨i, hi, hgas2, rfl, rfl, ⟨z2, rfl⟩, hf⟩ := hrel
        by_cases hlti : i < cs.length
        · rw [find_drop _ hlti] at hf
          obtain ⟨gt, ot, rfl, hrt⟩ := (HR.out.of (show SinceOf x1.wd z2.wd by (repeat (first | (with_reducible exact SinceOf.refl _) | (with_reducible assumption) | (with_reducible refine SinceOf.alloc ?_ _) | (with_reducible refine SinceOf.drew ?_) | (with_reducible refine SinceOf.drewN ?_ _) | (with_reducible refine SinceOf.later ?_ _) | (with_reducible refine SinceOf.further ?_ _) | (with_reducible refine SinceOf.setCell ?_ (by first | exact Nat.le_refl _ | (simp; done) | omega | (simp; omega)) _))))).at_ (by omega)
          have hOt := hrt.there
          have t0 := hrt.n0 i hlti
          generalize cs[i] = u at *
          clear hrt
          have FI := fun W (hW : SinceOf w W) => refFinish_any (w := W) u dur ((H.out.2.2.2.2.2.2.2.all _ (List.getElem_mem hmN1)).of hW)
          rw [← H.out.2.2.2.2.2.1 mN hmN1] at FI
          simp only [pairV] at FI
          have hst := HF.out.2.2.2.2.2 mN u
          have hft := HF.out.2.1 mN u
          have hff := HF.out.2.2.1 mN u
          have hfn := HF.out.2.2.2.1 mN u
          generalize fitsB ⟨some ⟨gc, oc, none⟩, sc, cals, sB, sd, R, most⟩ L l jb mN u = fb at *
          generalize finishAt ⟨some ⟨gc, oc, none⟩, sc, cals, sB, sd, R, most⟩ mN u dur = fv at *
          obtain ⟨fe, fr⟩ := fv
          simp only at hst hft hff hfn FI
          generalize cals[mN] = K at *
          by_cases h0 : fr = 0
          · subst h0
            have hft := hft fe rfl
            have hff := hff fe rfl
            have VX := H.out.2.2.2.2.1 ⟨jb, mN, u, fe⟩
            generalize validT ⟨some ⟨gc, oc, none⟩, sc, cals, sB, sd, R, most⟩ L (l ++ [⟨jb, mN, u, fe⟩]) = vt at *
            obtain ⟨vi, ve⟩ := vt
            simp only [List.length_append, List.length_singleton] at VX hft hff
            have HX := Lib.hid (And.intro hf (And.intro hst (And.intro hft (And.intro hff hfn))))
            clear hf hst hft hff hfn
            go_wp2_with fail
            refine region_later (by kernel_rfl) (by kernel_rfl) ?_
            repeat (go_big_quiet_step ((with_reducible refine Gives.later (FI _ (by (repeat (first | (with_reducible exact SinceOf.refl _) | (with_reducible assumption) | (with_reducible refine SinceOf.alloc ?_ _) | (with_reducible refine SinceOf.drew ?_) | (with_reducible refine SinceOf.drewN ?_ _) | (with_reducible refine SinceOf.later ?_ _) | (with_reducible refine SinceOf.further ?_ _) | (with_reducible refine SinceOf.setCell ?_ (by first | exact Nat.le_refl _ | (simp; done) | omega | (simp; omega)) _))))))))
            refine wpQuiet_nil ?_
            rintro _ ⟨z4, rfl⟩
            go_upto_region 14 with fail
            clear FI t0 c0 c1 c2 n0
            obtain ⟨V, hV⟩ : ∃ V, V = z4.wd.alloc (.cells #[.int .i64 jb, .int .i64 mN, .int .i64 u, .int .i64 fe] 46) := ⟨_, rfl⟩
            have hzV : SinceOf z2.wd V := by rw [hV]; (repeat (first | (with_reducible exact SinceOf.refl _) | (with_reducible assumption) | (with_reducible refine SinceOf.alloc ?_ _) | (with_reducible refine SinceOf.drew ?_) | (with_reducible refine SinceOf.drewN ?_ _) | (with_reducible refine SinceOf.later ?_ _) | (with_reducible refine SinceOf.further ?_ _) | (with_reducible refine SinceOf.setCell ?_ (by first | exact Nat.le_refl _ | (simp; done) | omega | (simp; omega)) _)))
            have hv0 : V.cell? ⟨z4.wd.heap.size, 0, none⟩ = some (.int .i64 jb) := by rw [hV]; simp [go_sem]
            have hv1 : V.cell? ⟨z4.wd.heap.size, 1, none⟩ = some (.int .i64 mN) := by rw [hV]; simp [go_sem]
            have hv2 : V.cell? ⟨z4.wd.heap.size, 2, none⟩ = some (.int .i64 u) := by rw [hV]; simp [go_sem]
            have hv3 : V.cell? ⟨z4.wd.heap.size, 3, none⟩ = some (.int .i64 fe) := by rw [hV]; simp [go_sem]
            have hOV : Nonempty (Old V z4.wd.heap.size) := by rw [hV]; exact ⟨⟨by simp⟩⟩
            go_cut [20] (fun s20 wx => s20 = .int .i64 ve ∧ SinceOf (z4.wd.alloc (.cells #[.int .i64 jb, .int .i64 mN, .int .i64 u, .int .i64 fe] 46)) wx)
            case first =>
              rw [← hV]
              have hbz : z4.wd.heap.size < V.heap.size := by rw [hV]; simp
              have hzw : SinceOf w V := by rw [hV]; (repeat (first | (with_reducible exact SinceOf.refl _) | (with_reducible assumption) | (with_reducible refine SinceOf.alloc ?_ _) | (with_reducible refine SinceOf.drew ?_) | (with_reducible refine SinceOf.drewN ?_ _) | (with_reducible refine SinceOf.later ?_ _) | (with_reducible refine SinceOf.further ?_ _) | (with_reducible refine SinceOf.setCell ?_ (by first | exact Nat.le_refl _ | (simp; done) | omega | (simp; omega)) _)))
              have sv0 : V.cell? ⟨w.heap.size, 0, none⟩ = some (.slice (some ⟨gc, oc, none⟩) cals.length sc) := by rw [hV]; simp [go_sem]
              have sv1 : V.cell? ⟨w.heap.size, 1, none⟩ = some (.slice sB R.length sd) := by rw [hV]; simp [go_sem]
              have sv2 : V.cell? ⟨w.heap.size, 2, none⟩ = some (.int .i64 most) := by rw [hV]; simp [go_sem]
              have hOS : Nonempty (Old V w.heap.size) := by rw [hV]; infer_instance
              have RL := Lib.hid (HF.out.1.of hzw)
              obtain ⟨hi2, hz0, hz1, hz2⟩ := HI.out
              have hs3 : SinceOf (z4.wd.alloc (.cells #[.int .i64 jb, .int .i64 mN, .int .i64 u, .int .i64 fe] 46)) V := by rw [hV]; exact SinceOf.refl _
              clear hV b0 b1 b2 b3 e0 e1 e2 e3
              go_region_held3 (fun w' => w'.cell? ⟨w.heap.size, 0, none⟩ = some (.slice (some ⟨gc, oc, none⟩) cals.length sc) ∧ w'.cell? ⟨w.heap.size, 1, none⟩ = some (.slice sB R.length sd) ∧ w'.cell? ⟨w.heap.size, 2, none⟩ = some (.int .i64 most) ∧ w'.cell? ⟨z4.wd.heap.size, 0, none⟩ = some (.int .i64 jb) ∧ w'.cell? ⟨z4.wd.heap.size, 1, none⟩ = some (.int .i64 mN) ∧ w'.cell? ⟨z4.wd.heap.size, 2, none⟩ = some (.int .i64 u) ∧ w'.cell? ⟨z4.wd.heap.size, 3, none⟩ = some (.int .i64 fe)) ((simp [go_sem, *]))
               (first
                | (refine step_append_row rfl (.tmp 82) (.tmp 83) 29 rfl encS_len (by omega) encS_one ti _ 32 Try.underlying29 hi2 hz0 hz1 hz2 rfl (l := []) (c := 0) (base := V.heap.size) rfl ?own (m := l) (B := B) (d := d) rfl ?hm ?h63 ?hby ?hbase ?_
                   case own => first | exact ownsS_empty _ _ (Nat.le_refl _) | exact (ownsS_empty _ _ (Nat.le_refl _)).alloc _ | (have q := ownsS_empty (V.alloc (.cells #[.int .i64 jb, .int .i64 mN, .int .i64 u, .int .i64 fe] 46)) V.heap.size (by simp); rw [show (V.alloc (.cells #[.int .i64 jb, .int .i64 mN, .int .i64 u, .int .i64 fe] 46)).heap.size = V.heap.size + 1 from by simp] at q; exact q)
                   case hm => exact RL.out.of (by (repeat (first | (with_reducible exact SinceOf.refl _) | (with_reducible assumption) | (with_reducible refine SinceOf.alloc ?_ _) | (with_reducible refine SinceOf.drew ?_) | (with_reducible refine SinceOf.drewN ?_ _) | (with_reducible refine SinceOf.later ?_ _) | (with_reducible refine SinceOf.further ?_ _) | (with_reducible refine SinceOf.setCell ?_ (by first | exact Nat.le_refl _ | (simp; done) | omega | (simp; omega)) _))))
                   case h63 => unfold maxLen; simp; omega
                   case hby => simp; omega
                   case hbase => first | (simp; done) | (simp; omega) | (have := hbz; simp; omega)
                   intro A1 c1 w1 hown1 hgrow1 hb1
                   have hs1 : SinceOf V w1 := SinceOf.grown (by (repeat (first | (with_reducible exact SinceOf.refl _) | (with_reducible assumption) | (with_reducible refine SinceOf.alloc ?_ _) | (with_reducible refine SinceOf.drew ?_) | (with_reducible refine SinceOf.drewN ?_ _) | (with_reducible refine SinceOf.later ?_ _) | (with_reducible refine SinceOf.further ?_ _) | (with_reducible refine SinceOf.setCell ?_ (by first | exact Nat.le_refl _ | (simp; done) | omega | (simp; omega)) _)))) hgrow1 (by intro q hq; simp [blockOf] at hq; omega)
                   have hOS1 : Nonempty (Old w1 w.heap.size) := oldS_since hs1 hOS
                   have hOV1 : Nonempty (Old w1 z4.wd.heap.size) := oldS_since hs1 hOV
                   have hw0 := cell_since hs1 hv0
                   have hw1 := cell_since hs1 hv1
                   have hw2 := cell_since hs1 hv2
                   have hw3 := cell_since hs1 hv3
                   have sw0 := cell_since hs1 sv0
                   have sw1 := cell_since hs1 sv1
                   have sw2 := cell_since hs1 sv2)
                | (refine step_append_row rfl (.tmp 84) (.tmp 86) 29 rfl encS_len (by omega) encS_one ti _ 32 Try.underlying29 hi2 hz0 hz1 hz2 rfl (l := [] ++ l) (A := A1) (c := c1) (base := V.heap.size) ?hs ?own (m := [⟨jb, mN, u, fe⟩]) rfl ?hm ?h63 ?hby ?hbase ?_
                   case hs => simp [Act.eval]
                   case own => first | exact hown1.alloc _ | exact hown1
                   case hm => first
                     | exact ⟨(by intro h; cases h), .inr ⟨_, _, rfl, rowS_one _ ⟨jb, mN, u, fe⟩⟩⟩
                     | exact ⟨(by intro h; cases h), .inr ⟨_, _, rfl, RowAt.grown (RowAt.of (rowS_one V ⟨jb, mN, u, fe⟩) (by (repeat (first | (with_reducible exact SinceOf.refl _) | (with_reducible assumption) | (with_reducible refine SinceOf.alloc ?_ _) | (with_reducible refine SinceOf.drew ?_) | (with_reducible refine SinceOf.drewN ?_ _) | (with_reducible refine SinceOf.later ?_ _) | (with_reducible refine SinceOf.further ?_ _) | (with_reducible refine SinceOf.setCell ?_ (by first | exact Nat.le_refl _ | (simp; done) | omega | (simp; omega)) _))))) hgrow1 (by simp [blockOf])⟩⟩
                     | (have q := rowS_one (V.alloc (.cells #[] 46)) ⟨jb, mN, u, fe⟩
                        rw [show (V.alloc (.cells #[] 46)).heap.size = V.heap.size + 1 from by simp] at q
                        exact ⟨(by intro h; cases h), .inr ⟨_, _, rfl, RowAt.grown (RowAt.of q (by (repeat (first | (with_reducible exact SinceOf.refl _) | (with_reducible assumption) | (with_reducible refine SinceOf.alloc ?_ _) | (with_reducible refine SinceOf.drew ?_) | (with_reducible refine SinceOf.drewN ?_ _) | (with_reducible refine SinceOf.later ?_ _) | (with_reducible refine SinceOf.further ?_ _) | (with_reducible refine SinceOf.setCell ?_ (by first | exact Nat.le_refl _ | (simp; done) | omega | (simp; omega)) _))))) hgrow1 (by simp [blockOf])⟩⟩)
                   case h63 => unfold maxLen; simp; omega
                   case hby => simp; omega
                   case hbase => (have := hs1.size; simp at this ⊢; omega)
                   intro A2 c2 w2 hown2 hgrow2 hb2
                   have hs2 : SinceOf V w2 := SinceOf.grown (by (repeat (first | (with_reducible exact SinceOf.refl _) | (with_reducible assumption) | (with_reducible refine SinceOf.alloc ?_ _) | (with_reducible refine SinceOf.drew ?_) | (with_reducible refine SinceOf.drewN ?_ _) | (with_reducible refine SinceOf.later ?_ _) | (with_reducible refine SinceOf.further ?_ _) | (with_reducible refine SinceOf.setCell ?_ (by first | exact Nat.le_refl _ | (simp; done) | omega | (simp; omega)) _)))) hgrow2 (by intro q hq; rw [hq] at hb1; simp [blockOf] at hb1; omega)
                   have hcap2 : l.length + 1 ≤ c2 := by (have := hown2.le_cap; simp at this; omega)
                   have hrow2 : IsSlots w2 A2 c2 (l ++ [⟨jb, mN, u, fe⟩]) := hown2.isRow encS_len
                   have VC := VX A2 c2 w2 (SinceOf.trans hzw hs2) hrow2 hcap2
                   have hOS2 : Nonempty (Old w2 w.heap.size) := oldS_since hs2 hOS
                   have hOV2 : Nonempty (Old w2 z4.wd.heap.size) := oldS_since hs2 hOV
                   have hx0 := cell_since hs2 hv0
                   have hx1 := cell_since hs2 hv1
                   have hx2 := cell_since hs2 hv2
                   have hx3 := cell_since hs2 hv3
                   have sx0 := cell_since hs2 sv0
                   have sx1 := cell_since hs2 sv1
                   have sx2 := cell_since hs2 sv2)
                | (go_at_call 13; refine VC.calls.mono ?_; rintro e _ ⟨rfl, z9, rfl⟩))
              all_goals go_wp2_with fail
              all_goals go_meet
              all_goals exact ⟨rfl, SinceOf.trans hs3 (by (repeat (first | (with_reducible exact SinceOf.refl _) | (with_reducible assumption) | (with_reducible refine SinceOf.alloc ?_ _) | (with_reducible refine SinceOf.drew ?_) | (with_reducible refine SinceOf.drewN ?_ _) | (with_reducible refine SinceOf.later ?_ _) | (with_reducible refine SinceOf.further ?_ _) | (with_reducible refine SinceOf.setCell ?_ (by first | exact Nat.le_refl _ | (simp; done) | omega | (simp; omega)) _))))⟩
            case rest =>
              obtain ⟨rfl, ⟨z5, rfl⟩⟩ := hcut
              clear VX hV hzV hv0 hv1 hv2 hv3 hOV
              by_cases hve : ve = 0
              · subst hve
                have hfb : fb = true := HX.out.2.2.1 rfl
                have hon : (cs.find? (fitsB ⟨some ⟨gc, oc, none⟩, sc, cals, sB, sd, R, most⟩ L l jb mN)).map (slotAt ⟨some ⟨gc, oc, none⟩, sc, cals, sB, sd, R, most⟩ L jb mN) = some ⟨jb, mN, u, fe⟩ := by
                  rw [HX.out.1, hfb, if_pos rfl, Option.map_some, HX.out.2.1]
                have HO := Lib.hid hon
                clear hon hfb
                cases best with
                | none =>
                  go_wp2_with fail
                  go_roundg (ms.length - (k + 1))
                  case measure => omega
                  case rel => exact ⟨k + 1, some ⟨jb, mN, u, fe⟩, hlt, Nat.le_refl _, rfl, by go_num, by (repeat (first | (with_reducible exact SinceOf.refl _) | (with_reducible assumption) | (with_reducible refine SinceOf.alloc ?_ _) | (with_reducible refine SinceOf.drew ?_) | (with_reducible refine SinceOf.drewN ?_ _) | (with_reducible refine SinceOf.later ?_ _) | (with_reducible refine SinceOf.further ?_ _) | (with_reducible refine SinceOf.setCell ?_ (by first | exact Nat.le_refl _ | (simp; done) | omega | (simp; omega)) _))), (HB.out.1.of (by (repeat (first | (with_reducible exact SinceOf.refl _) | (with_reducible assumption) | (with_reducible refine SinceOf.alloc ?_ _) | (with_reducible refine SinceOf.drew ?_) | (with_reducible refine SinceOf.drewN ?_ _) | (with_reducible refine SinceOf.later ?_ _) | (with_reducible refine SinceOf.further ?_ _) | (with_reducible refine SinceOf.setCell ?_ (by first | exact Nat.le_refl _ | (simp; done) | omega | (simp; omega)) _))))).set ⟨jb, mN, u, fe⟩, by rw [HB.out.2.2, HO.out]; rfl⟩
                | some bx =>
                  have hbx : betterS (some bx) (some ⟨jb, mN, u, fe⟩) = if fe < bx.stop then some ⟨jb, mN, u, fe⟩ else some bx := rfl
                  simp only [slotOr, Option.getD_some] at b0 b1 b2 b3
                  by_cases hlt2 : fe < bx.stop
                  · have hd : decide (fe < bx.stop) = true := by simpa using hlt2
                    rw [if_pos hlt2] at hbx
                    have HX2 := Lib.hid hbx
                    clear hbx
                    go_wp2_with fail
                    go_roundg (ms.length - (k + 1))
                    case measure => omega
                    case rel => exact ⟨k + 1, some ⟨jb, mN, u, fe⟩, hlt, Nat.le_refl _, rfl, by go_num, by (repeat (first | (with_reducible exact SinceOf.refl _) | (with_reducible assumption) | (with_reducible refine SinceOf.alloc ?_ _) | (with_reducible refine SinceOf.drew ?_) | (with_reducible refine SinceOf.drewN ?_ _) | (with_reducible refine SinceOf.later ?_ _) | (with_reducible refine SinceOf.further ?_ _) | (with_reducible refine SinceOf.setCell ?_ (by first | exact Nat.le_refl _ | (simp; done) | omega | (simp; omega)) _))), (HB.out.1.of (by (repeat (first | (with_reducible exact SinceOf.refl _) | (with_reducible assumption) | (with_reducible refine SinceOf.alloc ?_ _) | (with_reducible refine SinceOf.drew ?_) | (with_reducible refine SinceOf.drewN ?_ _) | (with_reducible refine SinceOf.later ?_ _) | (with_reducible refine SinceOf.further ?_ _) | (with_reducible refine SinceOf.setCell ?_ (by first | exact Nat.le_refl _ | (simp; done) | omega | (simp; omega)) _))))).set ⟨jb, mN, u, fe⟩, by rw [HB.out.2.2, HO.out, HX2.out]⟩
                  · have hd : decide (fe < bx.stop) = false := by simpa using hlt2
                    rw [if_neg hlt2] at hbx
                    have HX2 := Lib.hid hbx
                    clear hbx
                    go_wp2_with fail
                    go_roundg (ms.length - (k + 1))
                    case measure => omega
                    case rel => exact ⟨k + 1, some bx, hlt, Nat.le_refl _, rfl, by go_num, by (repeat (first | (with_reducible exact SinceOf.refl _) | (with_reducible assumption) | (with_reducible refine SinceOf.alloc ?_ _) | (with_reducible refine SinceOf.drew ?_) | (with_reducible refine SinceOf.drewN ?_ _) | (with_reducible refine SinceOf.later ?_ _) | (with_reducible refine SinceOf.further ?_ _) | (with_reducible refine SinceOf.setCell ?_ (by first | exact Nat.le_refl _ | (simp; done) | omega | (simp; omega)) _))), HB.out.1.of (by (repeat (first | (with_reducible exact SinceOf.refl _) | (with_reducible assumption) | (with_reducible refine SinceOf.alloc ?_ _) | (with_reducible refine SinceOf.drew ?_) | (with_reducible refine SinceOf.drewN ?_ _) | (with_reducible refine SinceOf.later ?_ _) | (with_reducible refine SinceOf.further ?_ _) | (with_reducible refine SinceOf.setCell ?_ (by first | exact Nat.le_refl _ | (simp; done) | omega | (simp; omega)) _)))), by rw [HB.out.2.2, HO.out, HX2.out]⟩
              · have hd : (ve == 0) = false := by simpa using hve
                have hfb : fb = false := HX.out.2.2.2.1 hve
                have hnx := HX.out.1
                rw [hfb, if_neg (by simp)] at hnx
                have HNX := Lib.hid hnx
                clear hnx hfb hve
                go_wp2_with fail
                go_roundg (cs.length - (i + 1))
                case measure => omega
                case rel => exact ⟨i + 1, hlti, Nat.le_refl _, rfl, by go_num, by (repeat (first | (with_reducible exact SinceOf.refl _) | (with_reducible assumption) | (with_reducible refine SinceOf.alloc ?_ _) | (with_reducible refine SinceOf.drew ?_) | (with_reducible refine SinceOf.drewN ?_ _) | (with_reducible refine SinceOf.later ?_ _) | (with_reducible refine SinceOf.further ?_ _) | (with_reducible refine SinceOf.setCell ?_ (by first | exact Nat.le_refl _ | (simp; done) | omega | (simp; omega)) _))), HNX.out⟩
          · have h0' : (fr != 0) = true := by simpa using h0
            have hfb := hfn h0
            rw [hfb, if_neg (by simp)] at hf
            have HX := Lib.hid hf
            clear hf hst hft hff hfn h0 hfb
            go_wp2_with fail
            refine region_later (by kernel_rfl) (by kernel_rfl) ?_
            repeat (go_big_quiet_step ((with_reducible refine Gives.later (FI _ (by (repeat (first | (with_reducible exact SinceOf.refl _) | (with_reducible assumption) | (with_reducible refine SinceOf.alloc ?_ _) | (with_reducible refine SinceOf.drew ?_) | (with_reducible refine SinceOf.drewN ?_ _) | (with_reducible refine SinceOf.later ?_ _) | (with_reducible refine SinceOf.further ?_ _) | (with_reducible refine SinceOf.setCell ?_ (by first | exact Nat.le_refl _ | (simp; done) | omega | (simp; omega)) _))))))))
            refine wpQuiet_nil ?_
            rintro _ ⟨z4, rfl⟩
            go_wp2_with fail
            go_roundg (cs.length - (i + 1))
            case measure => omega
            case rel => exact ⟨i + 1, hlti, Nat.le_refl _, rfl, by go_num, by (repeat (first | (with_reducible exact SinceOf.refl _) | (with_reducible assumption) | (with_reducible refine SinceOf.alloc ?_ _) | (with_reducible refine SinceOf.drew ?_) | (with_reducible refine SinceOf.drewN ?_ _) | (with_reducible refine SinceOf.later ?_ _) | (with_reducible refine SinceOf.further ?_ _) | (with_reducible refine SinceOf.setCell ?_ (by first | exact Nat.le_refl _ | (simp; done) | omega | (simp; omega)) _))), HX.out⟩
        · have hil : i = cs.length := by omega
          rw [hil, List.drop_length] at hf
          have HFN := Lib.hid hf
          clear hf hil
          go_wp2_with fail
          go_roundg (ms.length - (k + 1))
          case measure => omega
          case rel => exact ⟨k + 1, best, hlt, Nat.le_refl _, rfl, by go_num, by (repeat (first | (with_reducible exact SinceOf.refl _) | (with_reducible assumption) | (with_reducible refine SinceOf.alloc ?_ _) | (with_reducible refine SinceOf.drew ?_) | (with_reducible refine SinceOf.drewN ?_ _) | (with_reducible refine SinceOf.later ?_ _) | (with_reducible refine SinceOf.further ?_ _) | (with_reducible refine SinceOf.setCell ?_ (by first | exact Nat.le_refl _ | (simp; done) | omega | (simp; omega)) _))), HB.out.1.of (by (repeat (first | (with_reducible exact SinceOf.refl _) | (with_reducible assumption) | (with_reducible refine SinceOf.alloc ?_ _) | (with_reducible refine SinceOf.drew ?_) | (with_reducible refine SinceOf.drewN ?_ _) | (with_reducible refine SinceOf.later ?_ _) | (with_reducible refine SinceOf.further ?_ _) | (with_reducible refine SinceOf.setCell ?_ (by first | exact Nat.le_refl _ | (simp; done) | omega | (simp; omega)) _)))), by rw [HB.out.2.2, HFN.out]; rfl⟩
    · have hkl : k = ms.length := by omega
      rw [hkl, List.take_length, ← H.out.2.2.1] at hbe
      obtain ⟨b0, b1, b2, b3, e0, e1, e2, e3, hO2⟩ := hb
      have HB := Lib.hid hbe
      clear hbe hkl
      go_wp2_with fail
      go_returns
      refine ⟨?_, by (repeat (first | (with_reducible exact SinceOf.refl _) | (with_reducible assumption) | (with_reducible refine SinceOf.alloc ?_ _) | (with_reducible refine SinceOf.drew ?_) | (with_reducible refine SinceOf.drewN ?_ _) | (with_reducible refine SinceOf.later ?_ _) | (with_reducible refine SinceOf.further ?_ _) | (with_reducible refine SinceOf.setCell ?_ (by first | exact Nat.le_refl _ | (simp; done) | omega | (simp; omega)) _)))⟩
      rw [← HB.out]
      cases best <;> rfl
end Go.Proofs.Ytdcncalcncomoaa
/- Layer 52: Dispatch, the program's and the reference's. -/
namespace Go.Proofs.Ytdcncalcncomoaa
open Go.RowKit Go.Sort
set_option linter.unusedVariables false
attribute [local go_sem ↓] Go.wp_at_zero Go.wp_at_succ

/-- What Dispatch returns: a slot, whether there is one, an error. -/
def dispR (s : ShopR) (L : List JobR) (l : List SlotR) (j : Int) : SlotR × Bool × Int :=
  if (validT s L l).2 = 0 then (if askedE L l j = 0 then (slotOr (dispatchV s L l j), (dispatchV s L l j).isSome, 0) else (⟨0, 0, 0, 0⟩, false, askedE L l j)) else (⟨0, 0, 0, 0⟩, false, (validT s L l).2)
def dispTup (x : SlotR × Bool × Int) : Value := .tuple #[slotV x.1, .bool x.2.1, .int .i64 x.2.2]
theorem slotOpt_eq (o : Option SlotR) : slotOpt o = .tuple #[slotV (slotOr o), .bool o.isSome] := by cases o <;> rfl
set_option maxHeartbeats 2000000 in
theorem progDispatch_any (s : ShopR) (A : Option Addr) (c : Nat) (L : List JobR) (B : Option Addr) (d : Nat) (l : List SlotR) (j : Int) (w : World) (hs : IsShop w s) (h : IsJobs w A c L) (hl : IsSlots w B d l) (hll : l.length < 1073741824) (hcap : l.length ≤ d) :
    Yields Try.prog 8 #[shopV s, .slice A L.length c, .slice B l.length d, .int .i64 j] w (dispTup (dispR s L l j)) := by
  apply Yields.ret
  have VA := fun W hW => valid52_any s A c L B d l W (hs.of hW) (h.of hW) (hl.of hW) (by omega) hcap
  have AK := fun W hW => asked_any A c L B d l j W h.len (hl.of hW) (by omega)
  have DI := fun (hc : checkS s L = true) (hg : GoodS s L l) (jb : Nat) (hjb : jb < L.length) W hW => dispatch_any s A c L B d l jb W (hs.of hW) (h.of hW) (check_good hc) (any_orders hc) (check_machs hc) (hl.of hW) hll (good_named hg) hjb
  unfold dispR
  by_cases hv : (validT s L l).2 = 0
  · rw [if_pos hv]
    by_cases ha : askedE L l j = 0
    · rw [if_pos ha]
      obtain ⟨hc, hg⟩ := validT_zero.1 hv
      obtain ⟨hj0, hj1⟩ := asked_in ha
      obtain ⟨jb, rfl⟩ : ∃ q : Nat, j = q := ⟨j.toNat, by omega⟩
      have DJ := DI hc hg jb (by omega)
      rw [slotOpt_eq] at DJ
      generalize dispatchV s L l jb = o at *
      generalize slotOr o = x at *
      generalize o.isSome = b at *
      rw [hv] at VA
      rw [ha] at AK
      generalize (validT s L l).1 = v1 at *
      obtain ⟨x0, y0, x2, x3⟩ := x
      obtain ⟨sA, sc, cals, sB, sd, R, most⟩ := s
      clear hs h hl hc hg DI hv ha hj0 hj1
      go_enter Try.func8, Try.ntmps8
      go_wp2_with fail
      refine (VA _ (by (repeat (first | (with_reducible exact SinceOf.refl _) | (with_reducible assumption) | (with_reducible refine SinceOf.alloc ?_ _) | (with_reducible refine SinceOf.drew ?_) | (with_reducible refine SinceOf.drewN ?_ _) | (with_reducible refine SinceOf.later ?_ _) | (with_reducible refine SinceOf.further ?_ _) | (with_reducible refine SinceOf.setCell ?_ (by first | exact Nat.le_refl _ | (simp; done) | omega | (simp; omega)) _))))).calls.mono ?_
      rintro e _ ⟨rfl, z1, rfl⟩
      go_wp2_with fail
      refine (AK _ (by (repeat (first | (with_reducible exact SinceOf.refl _) | (with_reducible assumption) | (with_reducible refine SinceOf.alloc ?_ _) | (with_reducible refine SinceOf.drew ?_) | (with_reducible refine SinceOf.drewN ?_ _) | (with_reducible refine SinceOf.later ?_ _) | (with_reducible refine SinceOf.further ?_ _) | (with_reducible refine SinceOf.setCell ?_ (by first | exact Nat.le_refl _ | (simp; done) | omega | (simp; omega)) _))))).calls.mono ?_
      rintro e _ ⟨rfl, z2, rfl⟩
      go_wp2_with fail
      (with_reducible refine (DJ _ (by (repeat (first | (with_reducible exact SinceOf.refl _) | (with_reducible assumption) | (with_reducible refine SinceOf.alloc ?_ _) | (with_reducible refine SinceOf.drew ?_) | (with_reducible refine SinceOf.drewN ?_ _) | (with_reducible refine SinceOf.later ?_ _) | (with_reducible refine SinceOf.further ?_ _) | (with_reducible refine SinceOf.setCell ?_ (by first | exact Nat.le_refl _ | (simp; done) | omega | (simp; omega)) _))))).calls.mono ?_)
      rintro e _ ⟨rfl, z3, rfl⟩
      go_wp2_with fail
      go_returns
      exact ⟨rfl, by (repeat (first | (with_reducible exact SinceOf.refl _) | (with_reducible assumption) | (with_reducible refine SinceOf.alloc ?_ _) | (with_reducible refine SinceOf.drew ?_) | (with_reducible refine SinceOf.drewN ?_ _) | (with_reducible refine SinceOf.later ?_ _) | (with_reducible refine SinceOf.further ?_ _) | (with_reducible refine SinceOf.setCell ?_ (by first | exact Nat.le_refl _ | (simp; done) | omega | (simp; omega)) _)))⟩
    · rw [if_neg ha]
      rw [hv] at VA
      have ha' : (askedE L l j != 0) = true := by simpa using ha
      generalize (validT s L l).1 = v1 at *
      generalize askedE L l j = ae at *
      obtain ⟨sA, sc, cals, sB, sd, R, most⟩ := s
      clear hs h hl DI hv ha
      go_enter Try.func8, Try.ntmps8
      go_wp2_with fail
      refine (VA _ (by (repeat (first | (with_reducible exact SinceOf.refl _) | (with_reducible assumption) | (with_reducible refine SinceOf.alloc ?_ _) | (with_reducible refine SinceOf.drew ?_) | (with_reducible refine SinceOf.drewN ?_ _) | (with_reducible refine SinceOf.later ?_ _) | (with_reducible refine SinceOf.further ?_ _) | (with_reducible refine SinceOf.setCell ?_ (by first | exact Nat.le_refl _ | (simp; done) | omega | (simp; omega)) _))))).calls.mono ?_
      rintro e _ ⟨rfl, z1, rfl⟩
      go_wp2_with fail
      refine (AK _ (by (repeat (first | (with_reducible exact SinceOf.refl _) | (with_reducible assumption) | (with_reducible refine SinceOf.alloc ?_ _) | (with_reducible refine SinceOf.drew ?_) | (with_reducible refine SinceOf.drewN ?_ _) | (with_reducible refine SinceOf.later ?_ _) | (with_reducible refine SinceOf.further ?_ _) | (with_reducible refine SinceOf.setCell ?_ (by first | exact Nat.le_refl _ | (simp; done) | omega | (simp; omega)) _))))).calls.mono ?_
      rintro e _ ⟨rfl, z2, rfl⟩
      go_wp2_with fail
      go_returns
      exact ⟨rfl, by (repeat (first | (with_reducible exact SinceOf.refl _) | (with_reducible assumption) | (with_reducible refine SinceOf.alloc ?_ _) | (with_reducible refine SinceOf.drew ?_) | (with_reducible refine SinceOf.drewN ?_ _) | (with_reducible refine SinceOf.later ?_ _) | (with_reducible refine SinceOf.further ?_ _) | (with_reducible refine SinceOf.setCell ?_ (by first | exact Nat.le_refl _ | (simp; done) | omega | (simp; omega)) _)))⟩
  · rw [if_neg hv]
    have hv' : ((validT s L l).2 != 0) = true := by simpa using hv
    generalize validT s L l = vt at *
    obtain ⟨v1, v2⟩ := vt
    simp only at hv' VA
    obtain ⟨sA, sc, cals, sB, sd, R, most⟩ := s
    clear hs h hl DI hv AK
    go_enter Try.func8, Try.ntmps8
    go_wp2_with fail
    refine (VA _ (by (repeat (first | (with_reducible exact SinceOf.refl _) | (with_reducible assumption) | (with_reducible refine SinceOf.alloc ?_ _) | (with_reducible refine SinceOf.drew ?_) | (with_reducible refine SinceOf.drewN ?_ _) | (with_reducible refine SinceOf.later ?_ _) | (with_reducible refine SinceOf.further ?_ _) | (with_reducible refine SinceOf.setCell ?_ (by first | exact Nat.le_refl _ | (simp; done) | omega | (simp; omega)) _))))).calls.mono ?_
    rintro e _ ⟨rfl, z1, rfl⟩
    go_wp2_with fail
    go_returns
    exact ⟨rfl, by (repeat (first | (with_reducible exact SinceOf.refl _) | (with_reducible assumption) | (with_reducible refine SinceOf.alloc ?_ _) | (with_reducible refine SinceOf.drew ?_) | (with_reducible refine SinceOf.drewN ?_ _) | (with_reducible refine SinceOf.later ?_ _) | (with_reducible refine SinceOf.further ?_ _) | (with_reducible refine SinceOf.setCell ?_ (by first | exact Nat.le_refl _ | (simp; done) | omega | (simp; omega)) _)))⟩
theorem asked_cases (L : List JobR) (l : List SlotR) (j : Int) : (askedE L l j = 6 ∧ (j < 0 ∨ (¬ j < 0 ∧ (L.length : Int) ≤ j))) ∨ (askedE L l j = 7 ∧ ¬ j < 0 ∧ ¬ (L.length : Int) ≤ j ∧ l.any (fun y => y.job == j) = true) ∨ (askedE L l j = 0 ∧ ¬ j < 0 ∧ ¬ (L.length : Int) ≤ j ∧ l.any (fun y => y.job == j) = false) := by
  unfold askedE
  cases hi : jobIn L j
  · left
    rw [if_pos rfl]
    refine ⟨rfl, ?_⟩
    unfold jobIn at hi
    simp at hi
    omega
  · right
    rw [if_neg (by simp)]
    unfold jobIn at hi
    simp at hi
    cases ha : l.any (fun y => y.job == j)
    · right
      rw [if_neg (by simp)]
      exact ⟨rfl, by omega, by omega, rfl⟩
    · left
      rw [if_pos rfl]
      exact ⟨rfl, by omega, by omega, rfl⟩
set_option maxHeartbeats 4000000 in
theorem refDispatch52_any (s : ShopR) (A : Option Addr) (c : Nat) (L : List JobR) (B : Option Addr) (d : Nat) (l : List SlotR) (j : Int) (w : World) (hs : IsShop w s) (h : IsJobs w A c L) (hl : IsSlots w B d l) (hll : l.length < 1073741824) (hcap : l.length ≤ d) :
    Yields Try.prog 12 #[shopV s, .slice A L.length c, .slice B l.length d, .int .i64 j] w (dispTup (dispR s L l j)) := by
  apply Yields.ret
  have VA := fun W hW => refValid52_any s A c L B d l W (hs.of hW) (h.of hW) (hl.of hW) (by omega) hcap
  have HA := fun W hW => refHas_any B d l j W (hl.of hW) (by omega)
  have DI := fun (hc : checkS s L = true) (hg : GoodS s L l) (jb : Nat) (hjb : jb < L.length) W hW => refDispatch_any s A c L B d l jb W (hs.of hW) (h.of hW) hc (hl.of hW) hll (good_named hg) hjb
  have hjl := h.len
  unfold dispR
  by_cases hv : (validT s L l).2 = 0
  · rw [if_pos hv]
    rcases asked_cases L l j with ⟨ha, e0⟩ | ⟨ha, e0, e1, e2⟩ | ⟨ha, e0, e1, e2⟩
    · rw [ha, if_neg (by decide)]
      rw [hv] at VA
      generalize (validT s L l).1 = v1 at *
      obtain ⟨sA, sc, cals, sB, sd, R, most⟩ := s
      clear hs h hl DI hv ha HA
      rcases e0 with e0 | ⟨e0, e1⟩
      all_goals
        go_enter Try.func12, Try.ntmps12
        go_wp2_with fail
        refine (VA _ (by (repeat (first | (with_reducible exact SinceOf.refl _) | (with_reducible assumption) | (with_reducible refine SinceOf.alloc ?_ _) | (with_reducible refine SinceOf.drew ?_) | (with_reducible refine SinceOf.drewN ?_ _) | (with_reducible refine SinceOf.later ?_ _) | (with_reducible refine SinceOf.further ?_ _) | (with_reducible refine SinceOf.setCell ?_ (by first | exact Nat.le_refl _ | (simp; done) | omega | (simp; omega)) _))))).calls.mono ?_
        rintro e _ ⟨rfl, z1, rfl⟩
        go_wp2_with fail
        go_returns
        exact ⟨rfl, by (repeat (first | (with_reducible exact SinceOf.refl _) | (with_reducible assumption) | (with_reducible refine SinceOf.alloc ?_ _) | (with_reducible refine SinceOf.drew ?_) | (with_reducible refine SinceOf.drewN ?_ _) | (with_reducible refine SinceOf.later ?_ _) | (with_reducible refine SinceOf.further ?_ _) | (with_reducible refine SinceOf.setCell ?_ (by first | exact Nat.le_refl _ | (simp; done) | omega | (simp; omega)) _)))⟩
    · rw [ha, if_neg (by decide)]
      rw [hv] at VA
      rw [e2] at HA
      generalize (validT s L l).1 = v1 at *
      obtain ⟨sA, sc, cals, sB, sd, R, most⟩ := s
      clear hs h hl DI hv ha e2
      go_enter Try.func12, Try.ntmps12
      go_wp2_with fail
      refine (VA _ (by (repeat (first | (with_reducible exact SinceOf.refl _) | (with_reducible assumption) | (with_reducible refine SinceOf.alloc ?_ _) | (with_reducible refine SinceOf.drew ?_) | (with_reducible refine SinceOf.drewN ?_ _) | (with_reducible refine SinceOf.later ?_ _) | (with_reducible refine SinceOf.further ?_ _) | (with_reducible refine SinceOf.setCell ?_ (by first | exact Nat.le_refl _ | (simp; done) | omega | (simp; omega)) _))))).calls.mono ?_
      rintro e _ ⟨rfl, z1, rfl⟩
      go_wp2_with fail
      refine (HA _ (by (repeat (first | (with_reducible exact SinceOf.refl _) | (with_reducible assumption) | (with_reducible refine SinceOf.alloc ?_ _) | (with_reducible refine SinceOf.drew ?_) | (with_reducible refine SinceOf.drewN ?_ _) | (with_reducible refine SinceOf.later ?_ _) | (with_reducible refine SinceOf.further ?_ _) | (with_reducible refine SinceOf.setCell ?_ (by first | exact Nat.le_refl _ | (simp; done) | omega | (simp; omega)) _))))).calls.mono ?_
      rintro e _ ⟨rfl, z2, rfl⟩
      go_wp2_with fail
      go_returns
      exact ⟨rfl, by (repeat (first | (with_reducible exact SinceOf.refl _) | (with_reducible assumption) | (with_reducible refine SinceOf.alloc ?_ _) | (with_reducible refine SinceOf.drew ?_) | (with_reducible refine SinceOf.drewN ?_ _) | (with_reducible refine SinceOf.later ?_ _) | (with_reducible refine SinceOf.further ?_ _) | (with_reducible refine SinceOf.setCell ?_ (by first | exact Nat.le_refl _ | (simp; done) | omega | (simp; omega)) _)))⟩
    · rw [if_pos ha]
      obtain ⟨hc, hg⟩ := validT_zero.1 hv
      obtain ⟨jb, rfl⟩ : ∃ q : Nat, j = q := ⟨j.toNat, by omega⟩
      have DJ := DI hc hg jb (by omega)
      rw [slotOpt_eq] at DJ
      generalize dispatchV s L l jb = o at *
      generalize slotOr o = x at *
      generalize o.isSome = b at *
      rw [hv] at VA
      rw [e2] at HA
      generalize (validT s L l).1 = v1 at *
      obtain ⟨x0, y0, x2, x3⟩ := x
      obtain ⟨sA, sc, cals, sB, sd, R, most⟩ := s
      clear hs h hl hc hg DI hv ha e2
      go_enter Try.func12, Try.ntmps12
      go_wp2_with fail
      refine (VA _ (by (repeat (first | (with_reducible exact SinceOf.refl _) | (with_reducible assumption) | (with_reducible refine SinceOf.alloc ?_ _) | (with_reducible refine SinceOf.drew ?_) | (with_reducible refine SinceOf.drewN ?_ _) | (with_reducible refine SinceOf.later ?_ _) | (with_reducible refine SinceOf.further ?_ _) | (with_reducible refine SinceOf.setCell ?_ (by first | exact Nat.le_refl _ | (simp; done) | omega | (simp; omega)) _))))).calls.mono ?_
      rintro e _ ⟨rfl, z1, rfl⟩
      go_wp2_with fail
      refine (HA _ (by (repeat (first | (with_reducible exact SinceOf.refl _) | (with_reducible assumption) | (with_reducible refine SinceOf.alloc ?_ _) | (with_reducible refine SinceOf.drew ?_) | (with_reducible refine SinceOf.drewN ?_ _) | (with_reducible refine SinceOf.later ?_ _) | (with_reducible refine SinceOf.further ?_ _) | (with_reducible refine SinceOf.setCell ?_ (by first | exact Nat.le_refl _ | (simp; done) | omega | (simp; omega)) _))))).calls.mono ?_
      rintro e _ ⟨rfl, z2, rfl⟩
      go_wp2_with fail
      (with_reducible refine (DJ _ (by (repeat (first | (with_reducible exact SinceOf.refl _) | (with_reducible assumption) | (with_reducible refine SinceOf.alloc ?_ _) | (with_reducible refine SinceOf.drew ?_) | (with_reducible refine SinceOf.drewN ?_ _) | (with_reducible refine SinceOf.later ?_ _) | (with_reducible refine SinceOf.further ?_ _) | (with_reducible refine SinceOf.setCell ?_ (by first | exact Nat.le_refl _ | (simp; done) | omega | (simp; omega)) _))))).calls.mono ?_)
      rintro e _ ⟨rfl, z3, rfl⟩
      go_wp2_with fail
      go_returns
      exact ⟨rfl, by (repeat (first | (with_reducible exact SinceOf.refl _) | (with_reducible assumption) | (with_reducible refine SinceOf.alloc ?_ _) | (with_reducible refine SinceOf.drew ?_) | (with_reducible refine SinceOf.drewN ?_ _) | (with_reducible refine SinceOf.later ?_ _) | (with_reducible refine SinceOf.further ?_ _) | (with_reducible refine SinceOf.setCell ?_ (by first | exact Nat.le_refl _ | (simp; done) | omega | (simp; omega)) _)))⟩
  · rw [if_neg hv]
    have hv' : ((validT s L l).2 != 0) = true := by simpa using hv
    generalize validT s L l = vt at *
    obtain ⟨v1, v2⟩ := vt
    simp only at hv' VA
    obtain ⟨sA, sc, cals, sB, sd, R, most⟩ := s
    clear hs h hl DI hv HA
    go_enter Try.func12, Try.ntmps12
    go_wp2_with fail
    refine (VA _ (by (repeat (first | (with_reducible exact SinceOf.refl _) | (with_reducible assumption) | (with_reducible refine SinceOf.alloc ?_ _) | (with_reducible refine SinceOf.drew ?_) | (with_reducible refine SinceOf.drewN ?_ _) | (with_reducible refine SinceOf.later ?_ _) | (with_reducible refine SinceOf.further ?_ _) | (with_reducible refine SinceOf.setCell ?_ (by first | exact Nat.le_refl _ | (simp; done) | omega | (simp; omega)) _))))).calls.mono ?_
    rintro e _ ⟨rfl, z1, rfl⟩
    go_wp2_with fail
    go_returns
    exact ⟨rfl, by (repeat (first | (with_reducible exact SinceOf.refl _) | (with_reducible assumption) | (with_reducible refine SinceOf.alloc ?_ _) | (with_reducible refine SinceOf.drew ?_) | (with_reducible refine SinceOf.drewN ?_ _) | (with_reducible refine SinceOf.later ?_ _) | (with_reducible refine SinceOf.further ?_ _) | (with_reducible refine SinceOf.setCell ?_ (by first | exact Nat.le_refl _ | (simp; done) | omega | (simp; omega)) _)))⟩
end Go.Proofs.Ytdcncalcncomoaa
