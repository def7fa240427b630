/- Layer 46: left. -/
import Derived.Test.YtkpnffokjpgalaaGreatKJnt22
import Derived.Test.YtkpnffokjpgalaaGreatKJnt10
namespace Go.Proofs.YtkpnffokjpgalaaGreat
set_option linter.unusedVariables false
set_option linter.unusedSimpArgs false
open Go.RowKit Go.Sort
attribute [local go_sem ↓] Go.wp_at_zero Go.wp_at_succ

theorem stepsK_small {a b : Pt} (ha : near4 a) (hb : near4 b) (h : a ≠ b) : 0 < stepsK a b ∧ stepsK a b ≤ 8000 := by
  refine ⟨stepsK_pos h, ?_⟩
  obtain ⟨e1, e2, s1, s2⟩ := sub_sml ha hb
  unfold stepsK gcdI
  by_cases hx : b.1 - a.1 = 0
  · have hy : b.2 - a.2 ≠ 0 := fun e => h (Prod.ext (by omega) (by omega))
    have := Nat.le_of_dvd (by omega) (Nat.gcd_dvd_right (b.1 - a.1).natAbs (b.2 - a.2).natAbs)
    unfold Int.gcd
    unfold sml at s2
    omega
  · have := Nat.le_of_dvd (by omega) (Nat.gcd_dvd_left (b.1 - a.1).natAbs (b.2 - a.2).natAbs)
    unfold Int.gcd
    unfold sml at s1
    omega
theorem coverL_succ {s : SegP} {F : List SegP} {k : Nat} (hs : IsSegN s) (h : k < F.length) (ho : IsSegN F[k]) : coverL s (F.take (k + 1)) = coverL s (F.take k) ++ (if (meetP s F[k]).1 = 3 then [placesK s (meetP s F[k]).2] else []) := by
  unfold coverL
  rw [List.take_succ_eq_append_getElem h, List.filterMap_append]
  congr 1
  rw [meetP_K hs ho]
  unfold covK
  split
  · rename_i h3; simp [h3]
  · rename_i h3; simp [h3]
theorem coverL_len (s : SegP) (F : List SegP) : (coverL s F).length ≤ F.length := List.length_filterMap_le _ _
theorem runL_mem {S : Int} : ∀ (l : List (Int × Int)) (x : Int), (∀ c ∈ l, 0 ≤ c.1 ∧ c.1 ≤ S ∧ 0 ≤ c.2 ∧ c.2 ≤ S) → 0 ≤ x → x ≤ S → ∀ c ∈ runL x l, 0 ≤ c.1 ∧ c.1 ≤ S ∧ 0 ≤ c.2 ∧ c.2 ≤ S
  | [], x, _, _, _, c, hc => by simp [runL] at hc
  | d :: l, x, h, h0, h1, c, hc => by
    obtain ⟨d1, d2, d3, d4⟩ := h d (by simp)
    unfold runL at hc
    rcases List.mem_append.1 hc with hc | hc
    · split at hc
      · simp only [List.mem_singleton] at hc; subst hc; simp only; omega
      · simp at hc
    · exact runL_mem l (imax x d.2) (fun c hc => h c (by simp [hc])) (by unfold imax; split <;> omega) (by unfold imax; split <;> omega) c hc
theorem VarJ.kept {W w' : World} {g : Nat} {p : Pt} {row : Option Nat} (h : VarJ W g p) (hg : W.grownBy w' row) (hne : row ≠ some g) : VarJ w' g p := by
  have b := hg.block g h.lt (fun e => hne e.symm)
  exact ⟨(World.cell?_of_block b).trans h.c0, (World.cell?_of_block b).trans h.c1, (World.frozen?_of_block b).trans h.f0, (World.frozen?_of_block b).trans h.f1, Nat.lt_of_lt_of_le h.lt hg.size⟩
set_option maxRecDepth 100000 in
set_option maxHeartbeats 16000000 in
theorem left_any (s : SegP) (A : Option Addr) (c : Nat) (others : List SegP) (w : World) (h : IsSegs w A c others) (hs : IsSegN s) (ho : ∀ o ∈ others, IsSegN o) (hlen : others.length ≤ 50000) :
    Calls Tryz.prog 51 #[sgv s, .slice A others.length c] w fun e w' => ∃ A' c', e = .returned (.slice A' (leftK s others).length c') ∧ OwnSegs w.heap.size w' A' c' (leftK s others) ∧ SinceOf w w' := by
  obtain ⟨i0, hi, hz0, hz1, hz2⟩ := info_parts infoIvJ
  have HI := Lib.hid (And.intro hi (And.intro hz0 (And.intro hz1 hz2)))
  clear hi hz0 hz1 hz2
  obtain ⟨i1, hi, hz0, hz1, hz2⟩ := info_parts infoSeg
  have HJ := Lib.hid (And.intro hi (And.intro hz0 (And.intro hz1 hz2)))
  clear hi hz0 hz1 hz2
  have H := Lib.hid (And.intro h (And.intro hs ho))
  have T := steps_any s
  unfold stepsI at T
  rw [if_pos (segN_ok hs)] at T
  have SH := fun o => segShare_any s o
  have PL := fun p hp => place_any s p (segN_ok hs) hs.1 hp
  have PT := fun n hn => point_any s n (segN_ok hs) hs.1 hn
  have SK := stepsK_small hs.2.1 hs.2.2 hs.1
  have HC := Lib.hid (And.intro T (And.intro SH (And.intro PL (And.intro PT SK))))
  clear h hs ho T SH PL PT SK
  obtain ⟨LK, hLK⟩ : ∃ LK, LK = leftK s others := ⟨_, rfl⟩
  rw [← hLK]
  have HLK := Lib.hid hLK
  clear hLK
  obtain ⟨⟨xa, xb⟩, xc, xd⟩ := s
  obtain ⟨s, hsd⟩ : ∃ s : SegP, s = ((xa, xb), (xc, xd)) := ⟨_, rfl⟩
  rw [← hsd] at HLK
  have HSD := Lib.hid hsd
  rw [← hsd] at H HC
  change Calls _ _ #[sg xa xb xc xd, _] _ _
  clear hsd
  obtain ⟨B, hB⟩ : ∃ B : Value, B = sg xa xb xc xd := ⟨_, rfl⟩
  clear hB
  go_enter Tryz.func51, Tryz.ntmps51
  go_wp2_with fail
  go_loopg [5, 18] others.length (fun gas s5 s18 wr => ∃ (i : Nat) (A2 : Option Addr) (c2 : Nat) (L : List (Int × Int)), i ≤ others.length ∧ others.length - i ≤ gas ∧ s5 = .slice A2 L.length c2 ∧ s18 = .int .i64 i ∧ L.length ≤ i ∧ L = coverL s (others.take i) ∧ OwnIvs (w.heap.size + 1) wr A2 c2 L ∧ SinceOf (w.alloc (.cells #[.int .i64 xa, .int .i64 xb, .int .i64 xc, .int .i64 xd] 27)) wr)
  case atStart => exact ⟨0, none, 0, [], by omega, by omega, rfl, rfl, Nat.le_refl _, rfl, Owns.nil _ _ _ _ _, by (repeat (first | (with_reducible exact SinceOf.refl _) | (with_reducible assumption) | (with_reducible refine SinceOf.alloc ?_ _) | (with_reducible refine SinceOf.drew ?_) | (with_reducible refine SinceOf.drewN ?_ _) | (with_reducible refine SinceOf.later ?_ _) | (with_reducible refine SinceOf.further ?_ _) | (with_reducible refine SinceOf.setCell ?_ (by first | exact Nat.le_refl _ | (simp; done) | omega | (simp; omega)) _)))⟩
  case round =>
    obtain ⟨i, A2, c2, L, hi, hgas, rfl, rfl, hLi, hL, ho, ⟨z, rfl⟩⟩ := hrel
    have hzs := z.size
    (try simp only [World.size_alloc] at hzs)
    by_cases hlt : i < others.length
    · have hr0 := H.out.1.of (w' := z.wd) (by (repeat (first | (with_reducible exact SinceOf.refl _) | (with_reducible assumption) | (with_reducible refine SinceOf.alloc ?_ _) | (with_reducible refine SinceOf.drew ?_) | (with_reducible refine SinceOf.drewN ?_ _) | (with_reducible refine SinceOf.later ?_ _) | (with_reducible refine SinceOf.further ?_ _) | (with_reducible refine SinceOf.setCell ?_ (by first | exact Nat.le_refl _ | (simp; done) | omega | (simp; omega)) _))))
      obtain ⟨g, off, rfl, hr⟩ := hr0.at_ (by omega)
      have hO := hr.there
      have a0 := hr.e0 i hlt
      have a1 := hr.e1 i hlt
      have a2 := hr.e2 i hlt
      have a3 := hr.e3 i hlt
      have hon := H.out.2.2 _ (List.getElem_mem hlt)
      have hcs := coverL_succ H.out.2.1 hlt hon
      rw [← hL] at hcs
      have SH := HC.out.2.1 others[i]
      obtain ⟨y, hy⟩ : ∃ y, y = others[i] := ⟨_, rfl⟩
      rw [← hy] at hcs SH a0 a1 a2 a3 hon
      have KI := meetK_is H.out.2.1.2.1 H.out.2.1.2.2 hon.2.1 hon.2.2
      rw [← meetP_K H.out.2.1 hon] at KI
      have nr := fun e => (KI.over e).1.2
      obtain ⟨bb, hbb⟩ : ∃ b, b = decide ((meetP s y).1 = 3) := ⟨_, rfl⟩
      rw [← hbb] at SH
      have nr2 : bb = true → near4 (meetP s y).2.1 ∧ near4 (meetP s y).2.2 := fun e => nr (of_decide_eq_true (hbb ▸ e))
      have hcs2 : coverL s (others.take (i + 1)) = L ++ (if bb = true then [placesK s (meetP s y).2] else []) := by
        rw [hcs, hbb]; simp only [decide_eq_true_eq]
      obtain ⟨sh, hsh⟩ : ∃ q, q = (meetP s y).2 := ⟨_, rfl⟩
      rw [← hsh] at SH nr2 hcs2
      have HW := Lib.hid (And.intro ho (And.intro hcs2 nr2))
      rw [HSD.out] at SH
      obtain ⟨⟨sa, sb⟩, sc, sd⟩ := sh
      obtain ⟨⟨ya, yb⟩, yc, yd⟩ := y
      simp only at a0 a1 a2 a3
      change ∀ w, Gives _ _ #[sg xa xb xc xd, sg ya yb yc yd] w (.tuple #[sg sa sb sc sd, .bool bb]) at SH
      clear ho hcs2 nr2 hcs nr KI hon hbb hsh hy hL hr hr0
      go_wp2_with fail
      refine (SH _).calls.mono ?_
      rintro e _ ⟨rfl, z1, rfl⟩
      have hz1 := z1.size
      simp only [World.size_alloc] at hz1
      clear SH a0 a1 a2 a3
      cases bb
      · go_wp2_with fail
        go_roundg (others.length - (i + 1))
        case measure => omega
        case rel => exact ⟨i + 1, A2, c2, L, hlt, Nat.le_refl _, rfl, by go_num, by omega, (by rw [HW.out.2.1]; simp), HW.out.1.of (by (repeat (first | (with_reducible exact SinceOf.refl _) | (with_reducible assumption) | (with_reducible refine SinceOf.alloc ?_ _) | (with_reducible refine SinceOf.drew ?_) | (with_reducible refine SinceOf.drewN ?_ _) | (with_reducible refine SinceOf.later ?_ _) | (with_reducible refine SinceOf.further ?_ _) | (with_reducible refine SinceOf.setCell ?_ (by first | exact Nat.le_refl _ | (simp; done) | omega | (simp; omega)) _)))), by (repeat (first | (with_reducible exact SinceOf.refl _) | (with_reducible assumption) | (with_reducible refine SinceOf.alloc ?_ _) | (with_reducible refine SinceOf.drew ?_) | (with_reducible refine SinceOf.drewN ?_ _) | (with_reducible refine SinceOf.later ?_ _) | (with_reducible refine SinceOf.further ?_ _) | (with_reducible refine SinceOf.setCell ?_ (by first | exact Nat.le_refl _ | (simp; done) | omega | (simp; omega)) _)))⟩
      · obtain ⟨n1, n2⟩ := HW.out.2.2 rfl
        have P1 := HC.out.2.2.1 (sa, sb) n1
        have P2 := HC.out.2.2.1 (sc, sd) n2
        have hpl : placesK s ((sa, sb), (sc, sd)) = (imin (placeK s.1 s.2 (sa, sb)) (placeK s.1 s.2 (sc, sd)), imax (placeK s.1 s.2 (sa, sb)) (placeK s.1 s.2 (sc, sd))) := rfl
        generalize placeK s.1 s.2 (sa, sb) = u1 at *
        generalize placeK s.1 s.2 (sc, sd) = u2 at *
        have hnx : coverL s (others.take (i + 1)) = L ++ [(imin u1 u2, imax u1 u2)] := by rw [HW.out.2.1, if_pos rfl, hpl]
        have HX := Lib.hid hnx
        rw [HSD.out] at P1 P2
        change ∀ w, Gives _ _ #[sg xa xb xc xd, vv sa sb] w _ at P1
        change ∀ w, Gives _ _ #[sg xa xb xc xd, vv sc sd] w _ at P2
        clear hnx hpl n1 n2
        go_wp2_with fail
        refine region_later (by kernel_rfl) (by kernel_rfl) ?_
        repeat (go_big_quiet_step ((first | (with_reducible refine Gives.later (P1 _)) | (with_reducible refine Gives.later (P2 _)))))
        refine wpQuiet_nil ?_
        rintro _ ⟨z2, rfl⟩
        have hz2 := z2.size
        simp only [World.size_alloc, World.size_setCell] at hz2
        clear P1 P2
        go_wp2_with (at_builtin; refine wpList_append_row rfl (.tmp 37) (.tmp 45) 82 rfl encV_len (by omega) encV_one i0 _ 16 Tryz.underlying82 HI.out.1 HI.out.2.1 HI.out.2.2.1 HI.out.2.2.2 rfl (l := L) (A := A2) (c := c2) (base := w.heap.size + 1) rfl (HW.out.1.of (by (repeat (first | (with_reducible exact SinceOf.refl _) | (with_reducible assumption) | (with_reducible refine SinceOf.alloc ?_ _) | (with_reducible refine SinceOf.drew ?_) | (with_reducible refine SinceOf.drewN ?_ _) | (with_reducible refine SinceOf.later ?_ _) | (with_reducible refine SinceOf.further ?_ _) | (with_reducible refine SinceOf.setCell ?_ (by first | exact Nat.le_refl _ | (simp; done) | omega | (simp; omega)) _))))) (m := [(imin u1 u2, imax u1 u2)]) rfl (isRow_atJ _ _ _ _ (by first | rfl | simp)) (by unfold maxLen; simp; omega) (by simp; omega) (by simp; omega) ?_; intro A7 c7 w7 ho7 hgr7 hb7)
        have k4 : SinceOf (w.alloc (.cells #[.int .i64 xa, .int .i64 xb, .int .i64 xc, .int .i64 xd] 27)) w7 := SinceOf.grown (by (repeat (first | (with_reducible exact SinceOf.refl _) | (with_reducible assumption) | (with_reducible refine SinceOf.alloc ?_ _) | (with_reducible refine SinceOf.drew ?_) | (with_reducible refine SinceOf.drewN ?_ _) | (with_reducible refine SinceOf.later ?_ _) | (with_reducible refine SinceOf.further ?_ _) | (with_reducible refine SinceOf.setCell ?_ (by first | exact Nat.le_refl _ | (simp; done) | omega | (simp; omega)) _)))) hgr7 (fun q hq => by have := (HW.out.1.below q hq).1; simpa using this)
        have HK := Lib.hid (And.intro k4 ho7)
        clear k4 ho7 hgr7 hb7
        go_wp2_with fail
        go_roundg (others.length - (i + 1))
        case measure => omega
        case rel => exact ⟨i + 1, A7, c7, L ++ [(imin u1 u2, imax u1 u2)], hlt, Nat.le_refl _, (by first | rfl | simp), by go_num, by simp; omega, HX.out.symm, HK.out.2, HK.out.1⟩
    · obtain rfl : i = others.length := by omega
      rw [List.take_length] at hL
      have SO := sortOwn_any left1_cmps (w.heap.size + 1) A2 c2 L z.wd ho (by omega)
      have hcm := fun c hc => cover_mem (s := s) H.out.2.1 H.out.2.2 (c := c) (by rw [← hL]; exact hc)
      have HW := Lib.hid (And.intro hL (And.intro (fun b hb => (ho.below b hb).1) hcm))
      clear ho hL hcm
      go_wp2_with fail
      go_at_call 67
      refine SO.mono ?_
      rintro e w1 ⟨rfl, M, hp, hsd, ho1, hgr⟩
      have k1 : SinceOf (w.alloc (.cells #[.int .i64 xa, .int .i64 xb, .int .i64 xc, .int .i64 xd] 27)) w1 := SinceOf.grown (by (repeat (first | (with_reducible exact SinceOf.refl _) | (with_reducible assumption) | (with_reducible refine SinceOf.alloc ?_ _) | (with_reducible refine SinceOf.drew ?_) | (with_reducible refine SinceOf.drewN ?_ _) | (with_reducible refine SinceOf.later ?_ _) | (with_reducible refine SinceOf.further ?_ _) | (with_reducible refine SinceOf.setCell ?_ (by first | exact Nat.le_refl _ | (simp; done) | omega | (simp; omega)) _)))) hgr (fun q hq => by have := HW.out.2.1 q hq; simpa using this)
      have hml : M.length = L.length := hp.length_eq
      rw [← hml] at hLi ⊢
      clear hgr SO
      obtain ⟨z1, rfl⟩ := k1
      have hz1 := z1.size
      (try simp only [World.size_alloc] at hz1)
      have HM := Lib.hid (And.intro hp (And.intro hsd ho1))
      clear hp hsd ho1 hml
      have T := HC.out.1
      rw [HSD.out] at T
      change ∀ w, Gives _ _ #[sg xa xb xc xd] w (.int .i64 (stepsK ((xa, xb), (xc, xd)).1 ((xa, xb), (xc, xd)).2)) at T
      rw [← HSD.out] at T
      obtain ⟨S, hS⟩ : ∃ S, S = stepsK s.1 s.2 := ⟨_, rfl⟩
      rw [← hS] at T
      have HS := Lib.hid hS
      clear hS
      go_upto_region 11 with fail
      go_cut [5] from 50 to 57 (fun s5 wx => ∃ (A4 : Option Addr) (c4 : Nat), s5 = .slice A4 (M.length + 1) c4 ∧ OwnIvs (w.heap.size + 1) wx A4 c4 (M ++ [(S, S)]) ∧ SinceOf (w.alloc (.cells #[.int .i64 xa, .int .i64 xb, .int .i64 xc, .int .i64 xd] 27)) wx)
      case first =>
        go_region_law
          (first
            | (go_simp; go_at_call 13; refine (T _).calls.mono ?_; rintro e _ ⟨rfl, y1, rfl⟩; have sy := y1.size; (try simp only [World.size_alloc, World.size_drew] at sy); (try dsimp only))
            | (refine step_append_row (by rfl) (.tmp 50) (.tmp 56) 82 (by rfl) encV_len (by omega) encV_one i0 _ 16 Tryz.underlying82 HI.out.1 HI.out.2.1 HI.out.2.2.1 HI.out.2.2.2 rfl (l := M) (A := A2) (c := c2) (base := w.heap.size + 1) (by rfl) (HM.out.2.2.of (by (repeat (first | (with_reducible exact SinceOf.refl _) | (with_reducible assumption) | (with_reducible refine SinceOf.alloc ?_ _) | (with_reducible refine SinceOf.drew ?_) | (with_reducible refine SinceOf.drewN ?_ _) | (with_reducible refine SinceOf.later ?_ _) | (with_reducible refine SinceOf.further ?_ _) | (with_reducible refine SinceOf.setCell ?_ (by first | exact Nat.le_refl _ | (simp; done) | omega | (simp; omega)) _))))) (m := [(S, S)]) (by rfl) (isRow_atJ _ _ _ _ (by first | rfl | simp)) (by unfold maxLen; simp; omega) (by simp; omega) (by simp; omega) ?_; intro A4 c4 w4 ho4 hgr4 hb4))
        all_goals
          have k4 : SinceOf (w.alloc (.cells #[.int .i64 xa, .int .i64 xb, .int .i64 xc, .int .i64 xd] 27)) w4 := SinceOf.grown (by (repeat (first | (with_reducible exact SinceOf.refl _) | (with_reducible assumption) | (with_reducible refine SinceOf.alloc ?_ _) | (with_reducible refine SinceOf.drew ?_) | (with_reducible refine SinceOf.drewN ?_ _) | (with_reducible refine SinceOf.later ?_ _) | (with_reducible refine SinceOf.further ?_ _) | (with_reducible refine SinceOf.setCell ?_ (by first | exact Nat.le_refl _ | (simp; done) | omega | (simp; omega)) _)))) hgr4 (fun q hq => by have := (HM.out.2.2.below q hq).1; simpa using this)
          have HK := Lib.hid (And.intro k4 ho4)
          clear k4 ho4 hgr4 hb4
          go_wp2_with fail
          go_meet
          exact ⟨A4, c4, rfl, HK.out.2, HK.out.1⟩
      case rest =>
        obtain ⟨A4, c4, rfl, ho4, ⟨z4, rfl⟩⟩ := hcut
        have hz4 := z4.size
        (try simp only [World.size_alloc] at hz4)
        have hNl : (M ++ [(S, S)]).length = M.length + 1 := by simp
        have hbd : ∀ c ∈ M ++ [(S, S)], 0 ≤ c.1 ∧ c.1 ≤ S ∧ 0 ≤ c.2 ∧ c.2 ≤ S := fun c hc => by
          have sp := HC.out.2.2.2.2
          rw [← HS.out] at sp
          rcases List.mem_append.1 hc with hc | hc
          · have := HW.out.2.2 c (HM.out.1.mem_iff.1 hc)
            rw [← HS.out] at this
            omega
          · simp only [List.mem_singleton] at hc; subst hc; simp only; omega
        have hrn : (runL 0 (M ++ [(S, S)])).map (segI s) = LK := by
          have := left_is (s := s) (others := others) H.out.2.1 H.out.2.2 (l := M) (by rw [← HW.out.1]; exact HM.out.1) HM.out.2.1
          rw [← HS.out] at this
          rw [this, HLK.out]; rfl
        have hrow := ho4.isRow encV_len
        have hS8 : 0 < S ∧ S ≤ 8000 := by have := HC.out.2.2.2.2; rw [← HS.out] at this; exact this
        have PT := HC.out.2.2.2.1
        generalize M ++ [(S, S)] = N at *
        have HN := Lib.hid (And.intro hrn (And.intro hbd (And.intro hrow (And.intro PT hNl))))
        have hNb : N.length ≤ 50001 := by omega
        rw [← hNl]
        clear hrn hbd hrow HM HW HC T ho4 HLK PT hNl hLi
        go_wp2_with fail
        go_loopg [12, 13, 60] N.length (fun gas s12 s13 s60 wr => ∃ (j : Nat) (at_ : Int) (A3 : Option Addr) (c3 : Nat) (L3 : List SegP), j ≤ N.length ∧ N.length - j ≤ gas ∧ s12 = .slice A3 L3.length c3 ∧ s13 = .int .i64 at_ ∧ s60 = .int .i64 j ∧ L3.length ≤ j ∧ 0 ≤ at_ ∧ at_ ≤ S ∧ L3 ++ (runL at_ (N.drop j)).map (segI s) = LK ∧ OwnSegs z4.wd.heap.size wr A3 c3 L3 ∧ SinceOf z4.wd wr)
        case atStart => exact ⟨0, 0, none, 0, [], by omega, by omega, rfl, rfl, rfl, Nat.le_refl _, by omega, by omega, by simpa using HN.out.1, Owns.nil _ _ _ _ _, by (repeat (first | (with_reducible exact SinceOf.refl _) | (with_reducible assumption) | (with_reducible refine SinceOf.alloc ?_ _) | (with_reducible refine SinceOf.drew ?_) | (with_reducible refine SinceOf.drewN ?_ _) | (with_reducible refine SinceOf.later ?_ _) | (with_reducible refine SinceOf.further ?_ _) | (with_reducible refine SinceOf.setCell ?_ (by first | exact Nat.le_refl _ | (simp; done) | omega | (simp; omega)) _)))⟩
        case round =>
          obtain ⟨j, at_, A3, c3, L3, hj, hgas3, rfl, rfl, rfl, hL3, hat0, hat1, hfin, ho3, ⟨v, rfl⟩⟩ := hrel
          have hvs := v.size
          by_cases hlt : j < N.length
          · have hr0 := HN.out.2.2.1.of (w' := v.wd) (by (repeat (first | (with_reducible exact SinceOf.refl _) | (with_reducible assumption) | (with_reducible refine SinceOf.alloc ?_ _) | (with_reducible refine SinceOf.drew ?_) | (with_reducible refine SinceOf.drewN ?_ _) | (with_reducible refine SinceOf.later ?_ _) | (with_reducible refine SinceOf.further ?_ _) | (with_reducible refine SinceOf.setCell ?_ (by first | exact Nat.le_refl _ | (simp; done) | omega | (simp; omega)) _))))
            obtain ⟨g, off, rfl, hr⟩ := hr0.at_ (by omega)
            have hO := hr.there
            have a0 := hr.v0 j hlt
            have a1 := hr.v1 j hlt
            have hb := HN.out.2.1 _ (List.getElem_mem hlt)
            have hd : N.drop j = N[j] :: N.drop (j + 1) := List.drop_eq_getElem_cons hlt
            rw [hd] at hfin
            generalize N[j] = e at *
            obtain ⟨p, q⟩ := e
            simp only at a0 a1 hb
            obtain ⟨p0, p1, q0, q1⟩ := hb
            have hstep : L3 ++ ((if at_ < p then [(at_, p)] else []) ++ runL (imax at_ q) (N.drop (j + 1))).map (segI s) = LK := hfin
            have P1 := HN.out.2.2.2.1 at_ (by unfold small5; omega)
            have P2 := HN.out.2.2.2.1 p (by unfold small5; omega)
            rw [HSD.out] at P1 P2
            change ∀ w, Gives _ _ #[sg xa xb xc xd, _] w _ at P1
            change ∀ w, Gives _ _ #[sg xa xb xc xd, _] w _ at P2
            rw [← HSD.out] at P1 P2
            have hsg : segI s (at_, p) = (((pointK s.1 s.2 at_).1, (pointK s.1 s.2 at_).2), ((pointK s.1 s.2 p).1, (pointK s.1 s.2 p).2)) := rfl
            generalize (pointK s.1 s.2 at_).1 = k0 at *
            generalize (pointK s.1 s.2 at_).2 = k1 at *
            generalize (pointK s.1 s.2 p).1 = k2 at *
            generalize (pointK s.1 s.2 p).2 = k3 at *
            have him : 0 ≤ imax at_ q ∧ imax at_ q ≤ S := by unfold imax; split <;> omega
            have HX := Lib.hid (And.intro hstep (And.intro ho3 (And.intro hsg him)))
            have hbox : VarJ (v.wd.alloc (.cells #[.int .i64 p, .int .i64 q] 83)) v.wd.heap.size (p, q) := VarJ.new _ _ _ _
            have HB := Lib.hid hbox
            clear hfin hstep ho3 hsg him hbox hr hr0 hd
            by_cases hlt2 : at_ < p
            · have g1 : decide (at_ < p) = true := decide_eq_true hlt2
              go_upto_region 18 with fail
              go_cut [12] from 68 to 78 (fun s12 wx => ∃ (A5 : Option Addr) (c5 : Nat), s12 = .slice A5 (L3.length + 1) c5 ∧ OwnSegs z4.wd.heap.size wx A5 c5 (L3 ++ [((k0, k1), (k2, k3))]) ∧ VarJ wx v.wd.heap.size (p, q) ∧ SinceOf z4.wd wx)
              case first =>
                go_wp2_with fail
                go_region_law
                  (first
                    | (go_simp; go_at_call 39; (with_reducible refine (P1 _).calls.mono ?_); rintro e _ ⟨rfl, y1, rfl⟩; have sy := y1.size; (try simp only [World.size_alloc, World.size_drew] at sy); (try dsimp only))
                    | (go_simp; go_at_call 39; (with_reducible refine (P2 _).calls.mono ?_); rintro e _ ⟨rfl, y2, rfl⟩; have sy2 := y2.size; (try simp only [World.size_alloc, World.size_drew] at sy2); (try dsimp only))
                    | (refine step_append_row (by rfl) (.tmp 68) (.tmp 77) 30 (by rfl) encE_len (by omega) encE_one i1 _ 32 Tryz.underlying30 HJ.out.1 HJ.out.2.1 HJ.out.2.2.1 HJ.out.2.2.2 rfl (l := L3) (A := A3) (c := c3) (base := z4.wd.heap.size) (by rfl) (HX.out.2.1.of (by (repeat (first | (with_reducible exact SinceOf.refl _) | (with_reducible assumption) | (with_reducible refine SinceOf.alloc ?_ _) | (with_reducible refine SinceOf.drew ?_) | (with_reducible refine SinceOf.drewN ?_ _) | (with_reducible refine SinceOf.later ?_ _) | (with_reducible refine SinceOf.further ?_ _) | (with_reducible refine SinceOf.setCell ?_ (by first | exact Nat.le_refl _ | (simp; done) | omega | (simp; omega)) _))))) (m := [((k0, k1), (k2, k3))]) (by rfl) (isRow_atE _ _ _ _ _ _ (by first | rfl | simp)) (by unfold maxLen; simp; omega) (by simp; omega) (by simp; omega) ?_; intro A5 c5 w5 ho5 hgr5 hb5))
                all_goals
                  have k4 : SinceOf z4.wd w5 := SinceOf.grown (by (repeat (first | (with_reducible exact SinceOf.refl _) | (with_reducible assumption) | (with_reducible refine SinceOf.alloc ?_ _) | (with_reducible refine SinceOf.drew ?_) | (with_reducible refine SinceOf.drewN ?_ _) | (with_reducible refine SinceOf.later ?_ _) | (with_reducible refine SinceOf.further ?_ _) | (with_reducible refine SinceOf.setCell ?_ (by first | exact Nat.le_refl _ | (simp; done) | omega | (simp; omega)) _)))) hgr5 (fun q hq => (HX.out.2.1.below q hq).1)
                  have hne : blockOf A3 ≠ some v.wd.heap.size := fun e => by have := (HX.out.2.1.below _ e).2; omega
                  have k5 := (HB.out.of (by (repeat (first | (with_reducible exact SinceOf.refl _) | (with_reducible assumption) | (with_reducible refine SinceOf.alloc ?_ _) | (with_reducible refine SinceOf.drew ?_) | (with_reducible refine SinceOf.drewN ?_ _) | (with_reducible refine SinceOf.later ?_ _) | (with_reducible refine SinceOf.further ?_ _) | (with_reducible refine SinceOf.setCell ?_ (by first | exact Nat.le_refl _ | (simp; done) | omega | (simp; omega)) _))))).kept hgr5 hne
                  have HK := Lib.hid (And.intro k4 (And.intro k5 ho5))
                  clear k4 k5 hne ho5 hgr5 hb5
                  go_wp2_with fail
                  go_meet
                  exact ⟨A5, c5, rfl, HK.out.2.2, HK.out.2.1, HK.out.1⟩
              case rest =>
                obtain ⟨A5, c5, rfl, ho5, hv5, ⟨v5, rfl⟩⟩ := hcut
                have c1 := hv5.c1
                simp only at c1
                have o5 : Nonempty (Old v5.wd v.wd.heap.size) := ⟨⟨hv5.lt⟩⟩
                have HY := Lib.hid (And.intro ho5 (show (L3 ++ [((k0, k1), (k2, k3))]) ++ (runL (imax at_ q) (N.drop (j + 1))).map (segI s) = LK by rw [← HX.out.1, if_pos hlt2, ← HX.out.2.2.1]; simp))
                clear ho5 hv5 P1 P2 a0 a1
                go_wp2_with fail
                go_roundg (N.length - (j + 1))
                case measure => omega
                case rel => exact ⟨j + 1, imax at_ q, A5, c5, L3 ++ [((k0, k1), (k2, k3))], hlt, Nat.le_refl _, (by first | rfl | simp), rfl, by go_num, by simp; omega, HX.out.2.2.2.1, HX.out.2.2.2.2, HY.out.2, HY.out.1, by (repeat (first | (with_reducible exact SinceOf.refl _) | (with_reducible assumption) | (with_reducible refine SinceOf.alloc ?_ _) | (with_reducible refine SinceOf.drew ?_) | (with_reducible refine SinceOf.drewN ?_ _) | (with_reducible refine SinceOf.later ?_ _) | (with_reducible refine SinceOf.further ?_ _) | (with_reducible refine SinceOf.setCell ?_ (by first | exact Nat.le_refl _ | (simp; done) | omega | (simp; omega)) _)))⟩
            · have g1 : decide (at_ < p) = false := decide_eq_false hlt2
              have HY := Lib.hid (show L3 ++ (runL (imax at_ q) (N.drop (j + 1))).map (segI s) = LK by rw [← HX.out.1, if_neg hlt2]; simp)
              clear P1 P2
              go_wp2_with fail
              go_roundg (N.length - (j + 1))
              case measure => omega
              case rel => exact ⟨j + 1, imax at_ q, A3, c3, L3, hlt, Nat.le_refl _, rfl, rfl, by go_num, by omega, HX.out.2.2.2.1, HX.out.2.2.2.2, HY.out, HX.out.2.1.of (by (repeat (first | (with_reducible exact SinceOf.refl _) | (with_reducible assumption) | (with_reducible refine SinceOf.alloc ?_ _) | (with_reducible refine SinceOf.drew ?_) | (with_reducible refine SinceOf.drewN ?_ _) | (with_reducible refine SinceOf.later ?_ _) | (with_reducible refine SinceOf.further ?_ _) | (with_reducible refine SinceOf.setCell ?_ (by first | exact Nat.le_refl _ | (simp; done) | omega | (simp; omega)) _)))), by (repeat (first | (with_reducible exact SinceOf.refl _) | (with_reducible assumption) | (with_reducible refine SinceOf.alloc ?_ _) | (with_reducible refine SinceOf.drew ?_) | (with_reducible refine SinceOf.drewN ?_ _) | (with_reducible refine SinceOf.later ?_ _) | (with_reducible refine SinceOf.further ?_ _) | (with_reducible refine SinceOf.setCell ?_ (by first | exact Nat.le_refl _ | (simp; done) | omega | (simp; omega)) _)))⟩
          · obtain rfl : j = N.length := by omega
            rw [List.drop_length] at hfin
            obtain rfl : LK = L3 := by rw [← hfin]; simp [runL]
            have HX := Lib.hid (ho3.base_le (show w.heap.size ≤ z4.wd.heap.size by omega))
            clear hfin ho3
            go_wp2_with fail
            go_returns
            exact ⟨A3, c3, rfl, HX.out, by (repeat (first | (with_reducible exact SinceOf.refl _) | (with_reducible assumption) | (with_reducible refine SinceOf.alloc ?_ _) | (with_reducible refine SinceOf.drew ?_) | (with_reducible refine SinceOf.drewN ?_ _) | (with_reducible refine SinceOf.later ?_ _) | (with_reducible refine SinceOf.further ?_ _) | (with_reducible refine SinceOf.setCell ?_ (by first | exact Nat.le_refl _ | (simp; done) | omega | (simp; omega)) _)))⟩
end Go.Proofs.YtkpnffokjpgalaaGreat
