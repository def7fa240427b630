/- Layer 54, the law: states and results of the program as the reference's. -/
import Derived.Test.YtpaojgfmffkodaaGreatLRep25
import Derived.Test.YtpaojgfmffkodaaGreatLRep14
import Derived.Test.YtpaojgfmffkodaaGreatLRep2
import Derived.Test.YtpaojgfmffkodaaGreatLRep24
import Derived.Deep.CutRange
namespace Go.Proofs.YtpaojgfmffkodaaGreat
set_option linter.unusedVariables false
set_option linter.unusedSimpArgs false
open Go.RowKit Go.Sort
attribute [local go_sem ↓] Go.wp_at_zero Go.wp_at_succ
theorem infoRCal2 : (Tryz.prog.info? 103).map (fun i => (i.zero, i.size, i.bytes)) = some (some (.agg #[.int .i64 0, .slice none 0 0, .slice none 0 0]), 3, 56) := by kernel_rfl
theorem infoRJob2 : (Tryz.prog.info? 87).map (fun i => (i.zero, i.size, i.bytes)) = some (some (.agg #[.slice none 0 0, .int .i64 0, .int .i64 0, .int .i64 0, .int .i64 0, .int .i64 0]), 6, 64) := by kernel_rfl
set_option maxRecDepth 100000 in
set_option maxHeartbeats 8000000 in
theorem result54_any (y : ResM) (w : World) (h : IsRes w y) (hl : y.r.slots.length ≤ 1000000) :
    Calls Tryz.prog 25 #[resV y] w fun e w' => ∃ y' : ResM, e = .returned (resV y') ∧ y'.r = y.r ∧ IsRes w' y' ∧ SinceOf w w' := by
  have T1 := fun W (hW : SinceOf w W) => theirs_any y.A y.c y.r.slots W (h.slots.of hW) hl
  have H := Lib.hid h
  obtain ⟨⟨sl, mv, lf⟩, A, c, mA, mc, lA, lc⟩ := y
  simp only at T1 hl
  clear h
  go_enter Tryz.func25, Tryz.ntmps25
  go_wp2_with fail
  go_region_held3 (fun w' => w'.cell? ⟨w.heap.size, 0, none⟩ = some (.slice A sl.length c) ∧ w'.cell? ⟨w.heap.size, 1, none⟩ = some (.slice mA mv.length mc) ∧ w'.cell? ⟨w.heap.size, 2, none⟩ = some (.slice lA lf.length lc)) ((simp [go_sem, *]))
    (first | (go_at_call 50; refine (T1 _ Sx).mono ?_; rintro e _ ⟨B, b, rfl, ho, ⟨z, rfl⟩⟩; have hz := z.size; (try simp at hz)))
  all_goals
    go_wp2_with fail
    go_returns
    refine ⟨⟨⟨sl, mv, lf⟩, B, b, mA, mc, lA, lc⟩, rfl, rfl, ⟨?_, H.out.moved.of Sx, H.out.left.of Sx, ho.le_cap⟩, Sx⟩
    have n1 : ∀ q, blockOf B = some q → q ≠ w.heap.size + 1 := fun q hq => by have := (ho.below q hq).1; simp at this; omega
    exact (((ho.isRow encS_len).setOther _ _ _ n1).setOther _ _ _ n1).setOther _ _ _ n1
theorem th_ne {w5 : World} {n0 b base gc : Nat} {G : Option Addr} {l : List SlotR} {zc : Array Value} (hc : w5.heap[n0]? = some (Obj.cells zc 52 (0, 0))) (hG : Owns encS 4 base 77 w5 G gc l) (hb : blockOf G = some b) : n0 ≠ b := by
  intro e
  subst e
  obtain ⟨cur, h⟩ := hG.typed _ hb
  rw [hc] at h
  simp at h
set_option maxRecDepth 100000 in
set_option maxHeartbeats 16000000 in
theorem theirs54_any (x : StR) (w : World) (h : IsState w x) (hb : x.bg.length ≤ 1000000) (hp : x.pd.length ≤ 1000000) (hc : x.s.cals.length ≤ 1000000) (hL : x.L.length ≤ 1000000) :
    Calls Tryz.prog 18 #[stateV x] w fun e w' => ∃ x' : StR, e = .returned (stateV x') ∧ erSt x' = erSt x ∧ IsState w' x' ∧ SinceOf w w' := by
  have T1 := fun W (hW : SinceOf w W) => theirs_any x.gA x.gc x.bg W (h.bg.of hW) hb
  have T2 := fun W (hW : SinceOf w W) => theirs_any x.pA x.pc x.pd W (h.pd.of hW) hp
  have H := Lib.hid h
  obtain ⟨⟨sA, sc, cals, sB, sd, R, most⟩, A, c, L, gA, gc, bg, pA, pc, pd, dA, dc, dr⟩ := x
  simp only at T1 T2 hb hp hc hL
  obtain ⟨i0, hi, hz0, hz1, hz2⟩ := info_parts infoRCal2
  obtain ⟨j0', ji, jz0, jz1, jz2⟩ := info_parts infoRJob2
  have HI := Lib.hid (And.intro hi (And.intro hz0 (And.intro hz1 hz2)))
  have JI := Lib.hid (And.intro ji (And.intro jz0 (And.intro jz1 jz2)))
  clear h hi hz0 hz1 hz2 ji jz0 jz1 jz2
  go_enter Tryz.func18, Tryz.ntmps18
  go_upto_region 1 with fail
  go_cut [3] from 8 to 23 (fun s3 wx => ∃ (G : Option Addr) (gc2 : Nat) (Q : Option Addr) (pc2 o : Nat), s3 = .pointer (some ⟨o, 0, none⟩) ∧ Owns encS 4 (w.heap.size + 1 + 1) 77 wx G gc2 bg ∧ Owns encS 4 (w.heap.size + 1 + 1) 77 wx Q pc2 pd ∧ wx.heap[o]? = some (Obj.cells #[.slice none 0 0, .slice sB R.length sd, .int .i64 most, .slice none 0 0, .slice G bg.length gc2, .slice Q pd.length pc2, .slice dA dr.length dc] 52 (0, 0)) ∧ w.heap.size + 1 + 1 ≤ o ∧ SinceOf ((w.alloc (.cells #[.slice sA cals.length sc, .slice sB R.length sd, .int .i64 most, .slice A L.length c, .slice gA bg.length gc, .slice pA pd.length pc, .slice dA dr.length dc] 42)).alloc (.cells #[.slice none 0 0, .slice none 0 0, .int .i64 0, .slice none 0 0, .slice none 0 0, .slice none 0 0, .slice none 0 0] 52)) wx)
  case first =>
    go_region_held3 (fun w' => w'.cell? ⟨w.heap.size, 1, none⟩ = some (.slice sB R.length sd) ∧ w'.cell? ⟨w.heap.size, 2, none⟩ = some (.int .i64 most) ∧ w'.cell? ⟨w.heap.size, 4, none⟩ = some (.slice gA bg.length gc) ∧ w'.cell? ⟨w.heap.size, 5, none⟩ = some (.slice pA pd.length pc) ∧ w'.cell? ⟨w.heap.size, 6, none⟩ = some (.slice dA dr.length dc)) ((simp [go_sem, *]))
      (first
        | (go_at_call 50; (with_reducible refine (T1 _ Sx).mono ?_); rintro e _ ⟨G, gc2, rfl, hG, ⟨z1, rfl⟩⟩; have hz1 := z1.size; (try simp at hz1); clear T1)
        | (go_at_call 50; (with_reducible refine (T2 _ Sx).mono ?_); rintro e _ ⟨Q, pc2, rfl, hQ, ⟨z2, rfl⟩⟩; have hz2 := z2.size; (try simp at hz2); clear T2))
    all_goals go_wp2_with fail
    all_goals go_meet
    all_goals
      have hG' : Owns encS 4 (w.heap.size + 1 + 1) 77 z2.wd G gc2 bg := (hG.base_le (by first | omega | (simp; done) | (simp; omega))).of Sx
      have hQ' : Owns encS 4 (w.heap.size + 1 + 1) 77 z2.wd Q pc2 pd := hQ.base_le (by first | omega | (simp; done) | (simp; omega))
      have hA1 := fun o => hG'.alloc o
      have hA2 := fun o => hQ'.alloc o
      (try clear H HI JI hG hQ)
      refine ⟨G, gc2, Q, pc2, _, rfl, ?_, ?_, ?_, ?_, ?_⟩
      · first
          | (simp only [hA1]; done)
          | exact hG'.sameBlock (fun b hb => set7_ne (th_ne (zc := #[.slice none 0 0, .slice none 0 0, .int .i64 0, .slice none 0 0, .slice none 0 0, .slice none 0 0, .slice none 0 0]) (by first | (refine heapMade ?_ rfl; (repeat (with_reducible first | exact Sr _ | assumption | refine Sa ?_ _ | refine Sd ?_ | refine Sn ?_ _ | refine Se ?_ _ | refine Sf ?_ _ | refine Sc ?_ (by first | exact Nat.le_refl _ | (simp; done) | omega | (simp; omega)) _))) | (refine heapMade (W := ((w.alloc (.cells #[.slice sA cals.length sc, .slice sB R.length sd, .int .i64 most, .slice A L.length c, .slice gA bg.length gc, .slice pA pd.length pc, .slice dA dr.length dc] 42)).alloc (.cells #[.slice none 0 0, .slice none 0 0, .int .i64 0, .slice none 0 0, .slice none 0 0, .slice none 0 0, .slice none 0 0] 52))) ?_ (by simp); (repeat (with_reducible first | exact Sr _ | assumption | refine Sa ?_ _ | refine Sd ?_ | refine Sn ?_ _ | refine Se ?_ _ | refine Sf ?_ _ | refine Sc ?_ (by first | exact Nat.le_refl _ | (simp; done) | omega | (simp; omega)) _))) | (refine heapMade (W := ((w.alloc (.cells #[.slice sA cals.length sc, .slice sB R.length sd, .int .i64 most, .slice A L.length c, .slice gA bg.length gc, .slice pA pd.length pc, .slice dA dr.length dc] 42)).alloc (.cells #[.slice none 0 0, .slice none 0 0, .int .i64 0, .slice none 0 0, .slice none 0 0, .slice none 0 0, .slice none 0 0] 52)).drew) ?_ (by simp); (repeat (with_reducible first | exact Sr _ | assumption | refine Sa ?_ _ | refine Sd ?_ | refine Sn ?_ _ | refine Se ?_ _ | refine Sf ?_ _ | refine Sc ?_ (by first | exact Nat.le_refl _ | (simp; done) | omega | (simp; omega)) _)))) hG' hb))
      · first
          | (simp only [hA2]; done)
          | exact hQ'.sameBlock (fun b hb => set7_ne (th_ne (zc := #[.slice none 0 0, .slice none 0 0, .int .i64 0, .slice none 0 0, .slice none 0 0, .slice none 0 0, .slice none 0 0]) (by first | (refine heapMade ?_ rfl; (repeat (with_reducible first | exact Sr _ | assumption | refine Sa ?_ _ | refine Sd ?_ | refine Sn ?_ _ | refine Se ?_ _ | refine Sf ?_ _ | refine Sc ?_ (by first | exact Nat.le_refl _ | (simp; done) | omega | (simp; omega)) _))) | (refine heapMade (W := ((w.alloc (.cells #[.slice sA cals.length sc, .slice sB R.length sd, .int .i64 most, .slice A L.length c, .slice gA bg.length gc, .slice pA pd.length pc, .slice dA dr.length dc] 42)).alloc (.cells #[.slice none 0 0, .slice none 0 0, .int .i64 0, .slice none 0 0, .slice none 0 0, .slice none 0 0, .slice none 0 0] 52))) ?_ (by simp); (repeat (with_reducible first | exact Sr _ | assumption | refine Sa ?_ _ | refine Sd ?_ | refine Sn ?_ _ | refine Se ?_ _ | refine Sf ?_ _ | refine Sc ?_ (by first | exact Nat.le_refl _ | (simp; done) | omega | (simp; omega)) _))) | (refine heapMade (W := ((w.alloc (.cells #[.slice sA cals.length sc, .slice sB R.length sd, .int .i64 most, .slice A L.length c, .slice gA bg.length gc, .slice pA pd.length pc, .slice dA dr.length dc] 42)).alloc (.cells #[.slice none 0 0, .slice none 0 0, .int .i64 0, .slice none 0 0, .slice none 0 0, .slice none 0 0, .slice none 0 0] 52)).drew) ?_ (by simp); (repeat (with_reducible first | exact Sr _ | assumption | refine Sa ?_ _ | refine Sd ?_ | refine Sn ?_ _ | refine Se ?_ _ | refine Sf ?_ _ | refine Sc ?_ (by first | exact Nat.le_refl _ | (simp; done) | omega | (simp; omega)) _)))) hQ' hb))
      · first
          | (with_reducible refine alloc_at _ _ _ ?_; rfl)
          | exact set7_at (a0 := .slice none 0 0) (a1 := .slice none 0 0) (a2 := .int .i64 0) (a3 := .slice none 0 0) (a4 := .slice none 0 0) (a5 := .slice none 0 0) (a6 := .slice none 0 0) (by first | (refine heapMade ?_ rfl; (repeat (with_reducible first | exact Sr _ | assumption | refine Sa ?_ _ | refine Sd ?_ | refine Sn ?_ _ | refine Se ?_ _ | refine Sf ?_ _ | refine Sc ?_ (by first | exact Nat.le_refl _ | (simp; done) | omega | (simp; omega)) _))) | (refine heapMade (W := ((w.alloc (.cells #[.slice sA cals.length sc, .slice sB R.length sd, .int .i64 most, .slice A L.length c, .slice gA bg.length gc, .slice pA pd.length pc, .slice dA dr.length dc] 42)).alloc (.cells #[.slice none 0 0, .slice none 0 0, .int .i64 0, .slice none 0 0, .slice none 0 0, .slice none 0 0, .slice none 0 0] 52))) ?_ (by simp); (repeat (with_reducible first | exact Sr _ | assumption | refine Sa ?_ _ | refine Sd ?_ | refine Sn ?_ _ | refine Se ?_ _ | refine Sf ?_ _ | refine Sc ?_ (by first | exact Nat.le_refl _ | (simp; done) | omega | (simp; omega)) _))) | (refine heapMade (W := ((w.alloc (.cells #[.slice sA cals.length sc, .slice sB R.length sd, .int .i64 most, .slice A L.length c, .slice gA bg.length gc, .slice pA pd.length pc, .slice dA dr.length dc] 42)).alloc (.cells #[.slice none 0 0, .slice none 0 0, .int .i64 0, .slice none 0 0, .slice none 0 0, .slice none 0 0, .slice none 0 0] 52)).drew) ?_ (by simp); (repeat (with_reducible first | exact Sr _ | assumption | refine Sa ?_ _ | refine Sd ?_ | refine Sn ?_ _ | refine Se ?_ _ | refine Sf ?_ _ | refine Sc ?_ (by first | exact Nat.le_refl _ | (simp; done) | omega | (simp; omega)) _))))
      · first | omega | (simp; done) | (simp; omega)
      · (repeat (with_reducible first | exact Sr _ | assumption | refine Sa ?_ _ | refine Sd ?_ | refine Sn ?_ _ | refine Se ?_ _ | refine Sf ?_ _ | refine Sc ?_ (by first | exact Nat.le_refl _ | (simp; done) | omega | (simp; omega)) _))
  case rest =>
    obtain ⟨G, gc2, Q, pc2, o, rfl, hG, hQ, ho, hob, ⟨z, rfl⟩⟩ := hcut
    have HS := Lib.hid (And.intro hG hQ)
    have hz := z.size
    simp at hz
    clear hG hQ T1 T2
    go_wp2_with fail
    go_loopg [28] cals.length (fun gas s28 wr => ∃ (k : Nat) (A2 : Option Addr) (c2 : Nat), k ≤ cals.length ∧ cals.length - k ≤ gas ∧ s28 = .int .i64 k ∧ Owns encC 3 (w.heap.size + 1 + 1) 103 wr A2 c2 (cals.take k) ∧ wr.heap[o]? = some (Obj.cells #[.slice A2 k c2, .slice sB R.length sd, .int .i64 most, .slice none 0 0, .slice G bg.length gc2, .slice Q pd.length pc2, .slice dA dr.length dc] 52 (0, 0)) ∧ Owns encS 4 (w.heap.size + 1 + 1) 77 wr G gc2 bg ∧ Owns encS 4 (w.heap.size + 1 + 1) 77 wr Q pc2 pd ∧ SinceOf ((w.alloc (.cells #[.slice sA cals.length sc, .slice sB R.length sd, .int .i64 most, .slice A L.length c, .slice gA bg.length gc, .slice pA pd.length pc, .slice dA dr.length dc] 42)).alloc (.cells #[.slice none 0 0, .slice none 0 0, .int .i64 0, .slice none 0 0, .slice none 0 0, .slice none 0 0, .slice none 0 0] 52)) wr)
    case atStart => exact ⟨0, none, 0, by omega, by omega, rfl, Owns.nil _ _ _ _ _, ho, HS.out.1, HS.out.2, Sx⟩
    case round =>
      obtain ⟨k, A2, c2, hk, hgas, rfl, hown, hst, hG, hQ, ⟨z3, rfl⟩⟩ := hrel
      have hz3 := z3.size
      simp at hz3
      have o0 := cell_of (i := 0) hst rfl
      have o3 := cell_of (i := 3) hst rfl
      have f0 := free_of hst 0
      have hOo : Nonempty (Old z3.wd o) := ⟨⟨heap_lt hst⟩⟩
      by_cases hlt : k < cals.length
      · obtain ⟨g, off, rfl, hr⟩ := (H.out.shop.cals.row.of (show SinceOf w z3.wd from Sx)).at_ (by show 0 < cals.length; omega)
        have hO1 := hr.there
        have j0 := hr.k0 k hlt
        have j1 := hr.k1 k hlt
        have j2 := hr.k2 k hlt
        have hts := List.take_succ_eq_append_getElem hlt
        have htl : (cals.take k).length = k := by rw [List.length_take]; omega
        generalize cals[k] = x at *
        obtain ⟨xP, xA, xc, xS, xB, xd, xD⟩ := x
        simp only at j0 j1 j2
        have HH := Lib.hid (And.intro hown (And.intro hst (And.intro hG (And.intro hQ (And.intro hts htl)))))
        rw [← htl] at o0
        have hm1 : (cals.take k).length ≤ 1000000 := by omega
        generalize cals.take k = m at *
        clear hown hst hG hQ hts hr htl
        go_wp2_with (at_builtin; refine wpList_append_row rfl (.tmp 34) (.tmp 36) 22 rfl encC_len (by omega) encC_one i0 _ 56 Tryz.underlying22 HI.out.1 HI.out.2.1 HI.out.2.2.1 HI.out.2.2.2 rfl (l := m) (A := A2) (c := c2) (base := w.heap.size + 1 + 1) rfl (HH.out.1.of Sx) (m := [⟨xP, xA, xc, xS, xB, xd, xD⟩]) rfl (rowC_at _ _ ⟨xP, xA, xc, xS, xB, xd, xD⟩ _ (by first | rfl | simp)) (by unfold maxLen; simp; omega) (by simp; omega) (by first | omega | (simp; omega)) ?_; intro A3 c3 w4 ho4 hgr4 hbl4; have SB : SameBut [103] z3.wd w4 := (SameBut.since Sx).trans (SameBut.grown hgr4 (fun g5 hg5 => by obtain ⟨cur, hc⟩ := HH.out.1.typed g5 hg5; exact ⟨cur, _, _, List.mem_singleton.2 rfl, SameBut.since (es := []) Sx g5 cur _ _ (by simp) hc⟩)); have st4 := SB o _ _ _ (by simp) HH.out.2.1; have f4 := free_of st4 0; have c4 := cell_of (i := 0) st4 rfl; have hO4 : Nonempty (Old w4 o) := ⟨⟨heap_lt st4⟩⟩)
        go_roundg (cals.length - (k + 1))
        case measure => omega
        case rel =>
          have SC := SameBut.set (es := [52]) (i := 0) (u := .slice A3 (m.length + [(⟨xP, xA, xc, xS, xB, xd, xD⟩ : CalR)].length) c3) ⟨_, _, _, List.mem_singleton.2 rfl, st4⟩
          refine ⟨k + 1, A3, c3, hlt, Nat.le_refl _, by go_num, ?_, ?_, (HH.out.2.2.1.sameBut (by simp) SB).sameBut (by simp) SC, (HH.out.2.2.2.1.sameBut (by simp) SB).sameBut (by simp) SC, ?_⟩
          · rw [HH.out.2.2.2.2.1]; exact ho4.sameBut (by simp) SC
          · have e := set_block (i := 0) st4 (.slice A3 (m.length + 1) c3)
            rw [show k + 1 = m.length + 1 from by rw [HH.out.2.2.2.2.2]]
            exact e
          · exact SinceOf.setCell (SinceOf.grown Sx hgr4 (fun q hq => by have := (HH.out.1.below q hq).1; simp; omega)) (by simp; omega) _
      · have hkl : k = cals.length := by omega
        have e : cals.take k = cals := by rw [hkl, List.take_length]
        rw [e] at hown
        rw [hkl] at hst o0
        have HH := Lib.hid (And.intro hown (And.intro hG hQ))
        clear hown hG hQ e hkl ho
        go_wp2_with fail
        go_loopg [44] L.length (fun gas s44 wr => ∃ (k : Nat) (A3 : Option Addr) (c3 : Nat), k ≤ L.length ∧ L.length - k ≤ gas ∧ s44 = .int .i64 k ∧ Owns encJ 6 (w.heap.size + 1 + 1) 87 wr A3 c3 (L.take k) ∧ wr.heap[o]? = some (Obj.cells #[.slice A2 cals.length c2, .slice sB R.length sd, .int .i64 most, .slice A3 k c3, .slice G bg.length gc2, .slice Q pd.length pc2, .slice dA dr.length dc] 52 (0, 0)) ∧ Owns encC 3 (w.heap.size + 1 + 1) 103 wr A2 c2 cals ∧ Owns encS 4 (w.heap.size + 1 + 1) 77 wr G gc2 bg ∧ Owns encS 4 (w.heap.size + 1 + 1) 77 wr Q pc2 pd ∧ SinceOf ((w.alloc (.cells #[.slice sA cals.length sc, .slice sB R.length sd, .int .i64 most, .slice A L.length c, .slice gA bg.length gc, .slice pA pd.length pc, .slice dA dr.length dc] 42)).alloc (.cells #[.slice none 0 0, .slice none 0 0, .int .i64 0, .slice none 0 0, .slice none 0 0, .slice none 0 0, .slice none 0 0] 52)) wr)
        case atStart => exact ⟨0, none, 0, by omega, by omega, rfl, Owns.nil _ _ _ _ _, hst, HH.out.1, HH.out.2.1, HH.out.2.2, Sx⟩
        case round =>
          obtain ⟨k2, A3, c3, hk2, hgas2, rfl, hown, hst2, hC, hG, hQ, ⟨z4, rfl⟩⟩ := hrel
          have hz4 := z4.size
          simp at hz4
          have o0 := cell_of (i := 0) hst2 rfl
          have o1 := cell_of (i := 1) hst2 rfl
          have o2 := cell_of (i := 2) hst2 rfl
          have o3 := cell_of (i := 3) hst2 rfl
          have o4 := cell_of (i := 4) hst2 rfl
          have o5 := cell_of (i := 5) hst2 rfl
          have o6 := cell_of (i := 6) hst2 rfl
          have f3 := free_of hst2 3
          have hOo2 : Nonempty (Old z4.wd o) := ⟨⟨heap_lt hst2⟩⟩
          by_cases hlt : k2 < L.length
          · obtain ⟨g, off, rfl, hr⟩ := (H.out.jobs.row.of (show SinceOf w z4.wd from Sx)).at_ (by show 0 < L.length; omega)
            have hO1 := hr.there
            have j0 := hr.j0 k2 hlt
            have j1 := hr.j1 k2 hlt
            have j2 := hr.j2 k2 hlt
            have j3 := hr.j3 k2 hlt
            have j4 := hr.j4 k2 hlt
            have j5 := hr.j5 k2 hlt
            have hts := List.take_succ_eq_append_getElem hlt
            have htl : (L.take k2).length = k2 := by rw [List.length_take]; omega
            generalize L[k2] = x at *
            have HH2 := Lib.hid (And.intro hown (And.intro hst2 (And.intro hC (And.intro hG (And.intro hQ (And.intro hts htl))))))
            rw [← htl] at o3
            have hm1 : (L.take k2).length ≤ 1000000 := by omega
            generalize L.take k2 = m at *
            clear hown hst2 hC hG hQ hts hr htl
            go_wp2_with (at_builtin; refine wpList_append_row rfl (.tmp 49) (.tmp 51) 26 rfl encJ_len (by omega) encJ_one j0' _ 64 Tryz.underlying26 JI.out.1 JI.out.2.1 JI.out.2.2.1 JI.out.2.2.2 rfl (l := m) (A := A3) (c := c3) (base := w.heap.size + 1 + 1) rfl (HH2.out.1.of Sx) (m := [x]) rfl (rowJ_at _ _ x _ (by first | rfl | simp)) (by unfold maxLen; simp; omega) (by simp; omega) (by first | omega | (simp; omega)) ?_; intro A4 c4 w4 ho4 hgr4 hbl4; have SB : SameBut [87] z4.wd w4 := (SameBut.since Sx).trans (SameBut.grown hgr4 (fun g5 hg5 => by obtain ⟨cur, hc⟩ := HH2.out.1.typed g5 hg5; exact ⟨cur, _, _, List.mem_singleton.2 rfl, SameBut.since (es := []) Sx g5 cur _ _ (by simp) hc⟩)); have st4 := SB o _ _ _ (by simp) HH2.out.2.1; have f4 := free_of st4 3; have cc4 := cell_of (i := 3) st4 rfl; have hO4 : Nonempty (Old w4 o) := ⟨⟨heap_lt st4⟩⟩)
            go_roundg (L.length - (k2 + 1))
            case measure => omega
            case rel =>
              have SC := SameBut.set (es := [52]) (i := 3) (u := .slice A4 (m.length + [x].length) c4) ⟨_, _, _, List.mem_singleton.2 rfl, st4⟩
              refine ⟨k2 + 1, A4, c4, hlt, Nat.le_refl _, by go_num, ?_, ?_, (HH2.out.2.2.1.sameBut (by simp) SB).sameBut (by simp) SC, (HH2.out.2.2.2.1.sameBut (by simp) SB).sameBut (by simp) SC, (HH2.out.2.2.2.2.1.sameBut (by simp) SB).sameBut (by simp) SC, ?_⟩
              · rw [HH2.out.2.2.2.2.2.1]; exact ho4.sameBut (by simp) SC
              · have e := set_block (i := 3) st4 (.slice A4 (m.length + 1) c4)
                rw [show k2 + 1 = m.length + 1 from by rw [HH2.out.2.2.2.2.2.2]]
                exact e
              · exact SinceOf.setCell (SinceOf.grown Sx hgr4 (fun q hq => by have := (HH2.out.1.below q hq).1; simp; omega)) (by simp; omega) _
          · have hkl : k2 = L.length := by omega
            have e : L.take k2 = L := by rw [hkl, List.take_length]
            rw [e] at hown
            rw [hkl] at o3
            have HF := Lib.hid (And.intro hown (And.intro hC (And.intro hG hQ)))
            clear hown hC hG hQ e hkl hst2 hst
            go_wp2_with fail
            go_returns
            have hlt1 : w.heap.size + 1 < w.heap.size + 1 + 1 := by omega
            have hsw : SinceOf w z4.wd := Sx
            refine ⟨⟨⟨A2, c2, cals, sB, sd, R, most⟩, A3, c3, L, G, gc2, bg, Q, pc2, pd, dA, dc, dr⟩, rfl, rfl, ⟨⟨⟨?_, fun y hy => (H.out.shop.cals.all y hy).of Sx, H.out.shop.cals.len⟩, H.out.shop.rows.of Sx⟩, ⟨?_, fun j hj => ⟨(H.out.jobs.all j hj).1.of Sx, (H.out.jobs.all j hj).2⟩, H.out.jobs.len⟩, ?_, ?_, H.out.dr.of Sx⟩, Sx⟩
            · exact ((((((((HF.out.2.1.setOther hlt1).setOther hlt1).setOther hlt1).setOther hlt1).setOther hlt1).setOther hlt1).setOther hlt1)).isRow encC_len
            · exact ((((((((HF.out.1.setOther hlt1).setOther hlt1).setOther hlt1).setOther hlt1).setOther hlt1).setOther hlt1).setOther hlt1)).isRow encJ_len
            · exact ((((((((HF.out.2.2.1.setOther hlt1).setOther hlt1).setOther hlt1).setOther hlt1).setOther hlt1).setOther hlt1).setOther hlt1)).isRow encS_len
            · exact ((((((((HF.out.2.2.2.setOther hlt1).setOther hlt1).setOther hlt1).setOther hlt1).setOther hlt1).setOther hlt1).setOther hlt1)).isRow encS_len
end Go.Proofs.YtpaojgfmffkodaaGreat
