/- The calendar's add and Spans. -/
import Derived.Test.YtbceogoeoojdbaaCal9
namespace Go.Proofs.Ytbceogoeoojdbaa
open Go.RowKit Go.Sort
set_option linter.unusedVariables false
attribute [local go_sem ↓] Go.wp_at_zero Go.wp_at_succ

theorem addI_length (out : List (Int × Int)) (a b : Int) : (addI out a b).length ≤ out.length + 1 := by
  unfold addI; split
  · omega
  · split <;> simp
theorem ascI_length {most : Int} : ∀ {l : List (Int × Int)} {last : Int}, ascI most last l = true → (l.length : Int) ≤ endI last l - last
  | [], last, _ => by simp [endI]
  | s :: l, last, h => by
    rw [ascI_cons] at h
    have := ascI_length h.2.2.2
    simp only [endI, List.length_cons]; omega
def SpansR (P : Int) (S D : List (Int × Int)) (a b err : Int) (L : List (Int × Int)) : Prop :=
  ((validB P S D && checkB a b) = false ∧ err = errI (validB P S D) (checkB a b) ∧ L = []) ∨ (GoodCal P S D ∧ checkB a b = true ∧ err = 0 ∧ Runs (openI P S D) a b L b)
def SpansOut (w : World) (P : Int) (S D : List (Int × Int)) (a b : Int) (e : Ending) (w' : World) : Prop :=
  SinceOf w w' ∧ ∃ (err : Int) (A' : Option Addr) (n' c' : Nat) (L : List (Int × Int)), e = .returned (.tuple #[.slice A' n' c', .int .i64 err]) ∧ n' = L.length ∧ IsIvs w' A' c' L ∧ L.length ≤ 2000000000 ∧ SpansR P S D a b err L
def AddOut (base : Nat) (w : World) (A : Option Addr) (l : List (Int × Int)) (a b : Int) (e : Ending) (w' : World) : Prop :=
  ∃ (A' : Option Addr) (c' : Nat), e = .returned (.slice A' (addI l a b).length c') ∧ OwnIvs base w' A' c' (addI l a b) ∧ w.grownBy w' (blockOf A) ∧ (blockOf A' = blockOf A ∨ ∀ k, blockOf A' = some k → w.heap.size ≤ k)

set_option maxHeartbeats 1000000 in
theorem add_any (base : Nat) (A : Option Addr) (c : Nat) (l : List (Int × Int)) (a b : Int) (w : World) (hl : OwnIvs base w A c l) (hb : base ≤ w.heap.size) (hn : l.length ≤ 2000000000) : Calls Try.prog 90 #[.slice A l.length c, .int .i64 a, .int .i64 b] w (AddOut base w A l a b) := by
  have H := Lib.hid hl
  clear hl
  obtain ⟨i0, hi, hz0, hz1, hz2⟩ := info_parts infoIv
  have HI := Lib.hid (And.intro hi (And.intro hz0 (And.intro hz1 hz2)))
  clear hi hz0 hz1 hz2
  by_cases hab : b ≤ a
  · have HF : ∀ w', w = w' → AddOut base w A l a b (.returned (.slice A l.length c)) w' := fun w' hw => by
      subst hw
      unfold AddOut; rw [addI_no hab]; exact ⟨A, c, rfl, H.out, World.grownBy.refl _ _, .inl rfl⟩
    have HF := Lib.hid HF
    go_enter Try.func90, Try.ntmps90
    go_wp2_with fail
    go_returns
    exact HF.out _ rfl
  · have happ : ∀ (A' : Option Addr) (c' : Nat) (w' : World), addI l a b = l ++ [(a, b)] → OwnIvs base w' A' c' (l ++ [(a, b)]) → (w.alloc (.cells #[.int .i64 a, .int .i64 b] 55)).grownBy w' (blockOf A) → (blockOf A' = blockOf A ∨ blockOf A' = some (w.alloc (.cells #[.int .i64 a, .int .i64 b] 55)).heap.size) → AddOut base w A l a b (.returned (.slice A' (l.length + 1) c')) w' := by
      intro A' c' w' e hown hgr hbl
      unfold AddOut
      rw [e]
      obtain ⟨z, hz⟩ := (LaterOf.refl w).alloc (.cells #[.int .i64 a, .int .i64 b] 55)
      refine ⟨A', c', by rw [List.length_append]; rfl, hown, World.grownBy.trans (hz ▸ z.grownBy _) hgr, ?_⟩
      rcases hbl with h | h
      · exact .inl h
      · refine .inr fun k hk => ?_
        rw [h] at hk
        injection hk with hk
        simp at hk; omega
    have HAP := Lib.hid happ
    clear happ
    by_cases h0 : l.length = 0
    · obtain rfl : l = [] := List.eq_nil_of_length_eq_zero h0
      have e : addI [] a b = [] ++ [(a, b)] := by unfold addI; rw [if_neg hab]; rfl
      have HE := Lib.hid e
      clear e h0
      go_enter Try.func90, Try.ntmps90
      go_wp2_with (at_builtin; refine wpList_append_row rfl (.tmp 35) (.tmp 39) 56 rfl encV_len (by omega) encV_one i0 _ 16 Try.underlying56 HI.out.1 HI.out.2.1 HI.out.2.2.1 HI.out.2.2.2 rfl (l := []) (A := A) (c := c) (base := base) rfl (H.out.alloc _) (m := [(a, b)]) rfl (isRow_at _ _ a b _ (by first | rfl | simp)) (by unfold maxLen; simp) (by simp) (by simp only [World.size_alloc]; omega) ?_; intro A3 c3 w3 hown3 hgr3 hbl3)
      go_returns
      exact HAP.out A3 c3 w3 HE.out hown3 hgr3 hbl3
    · have hn0 : 0 < l.length := by omega
      obtain ⟨g, rfl, hgb, hg⟩ := H.out.at0 hn0
      have hlv := (H.out.live0 encV_len).2
      have hO := hlv.row.there
      have m1 := hlv.row.v1 (l.length - 1) (by omega)
      have f1 := hlv.free ((l.length - 1) * 2 + 1) (by omega)
      obtain ⟨⟨e0, e1⟩, he⟩ : ∃ q, q = l[l.length - 1] := ⟨_, rfl⟩
      rw [← he] at m1
      simp only [Nat.zero_add] at m1 f1
      have hgD : l.getD (l.length - 1) (0, 0) = (e0, e1) := by rw [List.getD_eq_getElem?_getD, List.getElem?_eq_getElem (by omega), he]; rfl
      by_cases hea : e1 = a
      · subst hea
        have e : addI l e1 b = l.set (l.length - 1) (e0, b) := by unfold addI; rw [if_neg hab, hgD, if_pos ⟨hn0, rfl⟩]
        have HE := Lib.hid (And.intro e he)
        clear e he hgD hlv h0 HAP
        go_enter Try.func90, Try.ntmps90
        go_wp2_with fail
        go_returns
        obtain ⟨o1, o2⟩ := Owns.set1 H.out (l.length - 1) (by omega) b
        rw [← HE.out.2] at o1
        unfold AddOut
        rw [HE.out.1]
        exact ⟨some ⟨g, 0, none⟩, c, by rw [List.length_set]; rfl, o1, o2, .inl rfl⟩
      · have e : addI l a b = l ++ [(a, b)] := by unfold addI; rw [if_neg hab, hgD, if_neg (fun h => hea h.2)]
        have heb : (e1 == a) = false := by rw [beq_eq_false_iff_ne]; exact hea
        have HE := Lib.hid e
        clear e he hgD hlv h0 hea
        go_enter Try.func90, Try.ntmps90
        go_wp2_with (at_builtin; refine wpList_append_row rfl (.tmp 35) (.tmp 39) 56 rfl encV_len (by omega) encV_one i0 _ 16 Try.underlying56 HI.out.1 HI.out.2.1 HI.out.2.2.1 HI.out.2.2.2 rfl (l := l) (A := some ⟨g, 0, none⟩) (c := c) (base := base) rfl (H.out.alloc _) (m := [(a, b)]) rfl (isRow_at _ _ a b _ (by first | rfl | simp)) (by unfold maxLen; simp; omega) (by simp; omega) (by simp only [World.size_alloc]; omega) ?_; intro A3 c3 w3 hown3 hgr3 hbl3)
        go_returns
        exact HAP.out A3 c3 w3 HE.out hown3 hgr3 hbl3

theorem cutI_nil (b : Int) (out : List (Int × Int)) (a : Int) : cutI b (out, a) [] = addI out a b := rfl
theorem cutI_cons (b : Int) (out : List (Int × Int)) (a : Int) (d : Int × Int) (D : List (Int × Int)) : cutI b (out, a) (d :: D) = if a < d.2 ∧ d.1 < b then cutI b (addI out a d.1, d.2) D else cutI b (out, a) D := rfl
theorem roundI_cons (D : List (Int × Int)) (lo hi begin : Int) (out : List (Int × Int)) (s : Int × Int) (S : List (Int × Int)) : roundI D lo hi begin out (s :: S) = roundI D lo hi begin (cutI (min hi (begin + s.2)) (out, max lo (begin + s.1)) D) S := rfl
theorem begin_mod {P q t : Int} (hP : 1 ≤ P) (h0 : P * q ≤ t) (h1 : t < P * q + P) : t % P = t - P * q :=
  ((Int.ediv_emod_unique (a := t) (b := P) (r := t - P * q) (q := q) (by omega)).2 ⟨by omega, by omega, by omega⟩).2
section
variable {P : Int} {A B : Option Addr} {n c m d : Nat} {S D : List (Int × Int)} {w : World}
set_option maxRecDepth 100000 in
set_option maxHeartbeats 8000000 in
theorem spans_any (a b : Int) (h : IsCal w P A n c B m d S D) : Calls Try.prog 53 #[CalV P A n c B m d, .int .i64 a, .int .i64 b] w (SpansOut w P S D a b) := by
  have K := fun W hW => checked_any (w := W) a b (h.of hW)
  by_cases hg : (validB P S D && checkB a b) = true
  · rw [Bool.and_eq_true] at hg
    obtain ⟨hv, hc⟩ := hg
    rw [hv, hc] at K
    have g := validB_iff.1 hv
    obtain ⟨h0, h1, h2⟩ := checkB_iff.1 hc
    obtain ⟨rfl, rfl, hS, hD, hn, hm⟩ := h
    have hD20 := g.d20
    have hS20 := g.s20
    have hP1 := g.p1
    have hP2 := g.p2
    have HG := Lib.hid (And.intro g (And.intro hc (And.intro hS hD)))
    have hq0 : 0 ≤ a / P * P := Int.mul_nonneg (Int.ediv_nonneg h0 (by omega)) (by omega)
    have hq1 : a / P * P ≤ a := Int.ediv_mul_le a (by omega)
    have hq2 : ∃ q, a / P * P = P * q := ⟨a / P, Int.mul_comm _ _⟩
    clear hv hc g hS hD
    go_enter Try.func53, Try.ntmps53
    go_wp2_with fail
    refine (K _ (by (repeat (first | (with_reducible exact SinceOf.refl _) | (with_reducible assumption) | (with_reducible refine SinceOf.alloc ?_ _) | (with_reducible refine SinceOf.drew ?_) | (with_reducible refine SinceOf.drewN ?_ _) | (with_reducible refine SinceOf.later ?_ _) | (with_reducible refine SinceOf.further ?_ _) | (with_reducible refine SinceOf.setCell ?_ (by first | exact Nat.le_refl _ | (simp; done) | omega | (simp; omega)) _))))).calls.mono ?_
    rintro e _ ⟨rfl, x1, rfl⟩
    simp only [errI, if_true]
    clear K
    go_wp2_with fail
    refine region_later (by kernel_rfl) (by kernel_rfl) ?_
    repeat (go_big_quiet_step (fail))
    refine wpQuiet_nil ?_
    rintro _ ⟨x2, rfl⟩
    obtain ⟨q0, hq0'⟩ := hq2
    generalize a / P * P = B0 at *
    have HQ := Lib.hid hq0'
    clear hq0'
    go_wp2_with fail
    go_loopg [9, 10] (b - B0).toNat (fun gas s9 s10 wr => ∃ (A2 : Option Addr) (c2 : Nat) (out : List (Int × Int)) (bg q : Int), s9 = .slice A2 out.length c2 ∧ s10 = .int .i64 bg ∧ bg = P * q ∧ B0 ≤ bg ∧ bg ≤ b + P ∧ (b - bg).toNat ≤ gas ∧ (out.length : Int) ≤ 500 * (bg - B0) ∧
      OwnIvs x2.wd.heap.size wr A2 c2 out ∧ SinceOf x2.wd wr ∧ Runs (openI P S D) a b out (max a (min b bg)))
    case atStart =>
      refine ⟨none, 0, [], B0, q0, rfl, rfl, HQ.out, Int.le_refl _, by omega, Nat.le_refl _, by simp, Owns.nil _ _ _ _ _, SinceOf.refl _, ?_⟩
      rw [show max a (min b B0) = a from by omega]; exact Runs.nil _ _ _
    case round =>
      obtain ⟨A2, c2, out, bg, q, rfl, rfl, hbq, hbg0, hbg1, hgas, hol, hown, ⟨z, rfl⟩, hruns⟩ := hrel
      by_cases hlt : bg < b
      · have hT := roundI_runs (P := P) (begin := bg) (lo := a) (hi := b) HG.out.1.d h1 S (fun t g0 g1 => by rw [hbq] at g0 g1 ⊢; exact begin_mod hP1 g0 g1) (S := S) (out := out) (last := -1) (p := 0) HG.out.1.s (by omega) (by omega) (Int.le_refl _) (by omega) (fun r _ => rfl) (by rw [Int.add_zero]; exact hruns)
        obtain ⟨T, hTd⟩ : ∃ T, T = roundI D a b bg out S := ⟨_, rfl⟩
        rw [← hTd] at hT
        have HT := Lib.hid (And.intro hT (And.intro hTd (And.intro hbq hown)))
        clear hT hTd hbq hown hruns
        go_wp2_with fail
        go_loopg [9, 41] S.length (fun gas2 s9 s41 wr => ∃ (k : Nat) (A3 : Option Addr) (c3 : Nat) (out3 : List (Int × Int)), k ≤ S.length ∧ S.length - k ≤ gas2 ∧ s9 = .slice A3 out3.length c3 ∧ s41 = .int .i64 k ∧ out3.length ≤ out.length + 21 * k ∧
          OwnIvs x2.wd.heap.size wr A3 c3 out3 ∧ SinceOf x2.wd wr ∧ roundI D a b bg out3 (S.drop k) = T)
        case atStart => exact ⟨0, A2, c2, out, by omega, by omega, rfl, rfl, by omega, HT.out.2.2.2, ⟨z, rfl⟩, by rw [List.drop_zero]; exact HT.out.2.1.symm⟩
        case round =>
          obtain ⟨k, A3, c3, out3, hk, hgas2, rfl, rfl, hol3, hown3, ⟨z3, rfl⟩, hro⟩ := hrel
          by_cases hltk : k < S.length
          · have hr := (HG.out.2.2.1.of (SinceOf.further (((SinceOf.refl w).alloc _).later x1 |>.later x2) z3)).at_ (by omega)
            obtain ⟨g, off, rfl, hr⟩ := hr
            have hO := hr.there
            have k0 := hr.v0 k hltk
            have k1 := hr.v1 k hltk
            have hmem := ascI_mem HG.out.1.s S[k] (List.getElem_mem hltk)
            have hst : S.drop k = S[k] :: S.drop (k + 1) := List.drop_eq_getElem_cons hltk
            obtain ⟨⟨s0, s1⟩, hs⟩ : ∃ q, q = S[k] := ⟨_, rfl⟩
            rw [← hs] at k0 k1 hmem hst
            simp only at k0 k1 hmem
            obtain ⟨m0, m1, m2⟩ := hmem
            have m3 : 0 ≤ s0 := by omega
            rw [hst, roundI_cons] at hro
            simp only at hro
            rw [← imax_eq, ← imin_eq] at hro
            obtain ⟨T2, hT2⟩ : ∃ T2, T2 = cutI (imin b (bg + s1)) (out3, imax a (bg + s0)) D := ⟨_, rfl⟩
            rw [← hT2] at hro
            have HR := Lib.hid (And.intro hro (And.intro hT2 hown3))
            clear hr hs hst hro hT2 hown3
            go_wp2_with fail
            refine region_later (by kernel_rfl) (by kernel_rfl) ?_
            repeat (go_big_quiet_step (fail))
            refine wpQuiet_nil ?_
            rintro _ ⟨x4, rfl⟩
            have hnum : out3.length ≤ 1000000000 := by omega
            go_wp2_with fail
            go_loopg [9, 13, 60] D.length (fun gas3 s9 s13 s60 wr => ∃ (j : Nat) (A4 : Option Addr) (c4 : Nat) (out4 : List (Int × Int)) (av : Int), j ≤ D.length ∧ D.length - j ≤ gas3 ∧ s9 = .slice A4 out4.length c4 ∧ s13 = .int .i64 av ∧ s60 = .int .i64 j ∧ out4.length ≤ out3.length + j ∧
              OwnIvs x2.wd.heap.size wr A4 c4 out4 ∧ SinceOf x2.wd wr ∧ cutI (imin b (bg + s1)) (out4, av) (D.drop j) = T2)
            case atStart => exact ⟨0, A3, c3, out3, _, by omega, by omega, rfl, rfl, rfl, by omega, (HR.out.2.2.alloc _).of (LaterOf.since ⟨x4, rfl⟩), SinceOf.later (SinceOf.alloc ⟨z3, rfl⟩ _) x4, by rw [List.drop_zero]; exact HR.out.2.1.symm⟩
            case round =>
              obtain ⟨j, A4, c4, out4, av, hj, hgas3, rfl, rfl, rfl, hol4, hown4, ⟨z4, rfl⟩, hcut⟩ := hrel
              by_cases hltj : j < D.length
              · have hr := (HG.out.2.2.2.of (SinceOf.further (((SinceOf.refl w).alloc _).later x1 |>.later x2) z4)).at_ (by omega)
                obtain ⟨g, off, rfl, hr⟩ := hr
                have hO := hr.there
                have k0 := hr.v0 j hltj
                have k1 := hr.v1 j hltj
                have hst : D.drop j = D[j] :: D.drop (j + 1) := List.drop_eq_getElem_cons hltj
                obtain ⟨⟨d0, d1⟩, hs⟩ : ∃ q, q = D[j] := ⟨_, rfl⟩
                rw [← hs] at k0 k1 hst
                simp only at k0 k1
                rw [hst, cutI_cons] at hcut
                simp only at hcut
                generalize imin b (bg + s1) = bv at *
                by_cases h1' : av < d1
                · by_cases h2' : d0 < bv
                  · rw [if_pos ⟨h1', h2'⟩] at hcut
                    have HC := Lib.hid (And.intro hcut hown4)
                    clear hr hs hst hcut hown4
                    go_wp2_with fail
                    refine (add_any x2.wd.heap.size A4 c4 out4 av d0 _ (HC.out.2.alloc _) (by have := z4.size; simp; omega) (by omega)).mono ?_
                    rintro e w5 ⟨A5, c5, rfl, hown5, hgr5, -⟩
                    have hbA : ∀ k, blockOf A4 = some k → x2.wd.heap.size ≤ k ∧ k < z4.wd.heap.size := HC.out.2.below
                    obtain ⟨y5, rfl⟩ : ∃ y : Since x2.wd, w5 = y.wd := (SinceOf.alloc ⟨z4, rfl⟩ _).grown hgr5 (fun k hk => (hbA k hk).1)
                    have hc5 : y5.wd.cell? ⟨z4.wd.heap.size, 1, none⟩ = some (.int .i64 d1) := by
                      rw [hgr5.cell_far _ (by simp) (by intro hk; have := (hbA _ hk.symm).2; simp at this)]; simp [go_sem]
                    have H5 := Lib.hid hown5
                    clear hown5 hgr5 hbA
                    go_wp2_with fail
                    go_roundg (D.length - (j + 1))
                    case measure => omega
                    case rel => exact ⟨j + 1, A5, c5, _, d1, hltj, Nat.le_refl _, rfl, rfl, by go_num, by have := addI_length out4 av d0; omega, H5.out, ⟨y5, rfl⟩, HC.out.1⟩
                  · rw [if_neg (fun h => h2' h.2)] at hcut
                    have HC := Lib.hid (And.intro hcut hown4)
                    have h2d : decide (d0 < bv) = false := decide_eq_false h2'
                    clear hr hs hst hcut hown4 h2'
                    go_wp2_with fail
                    go_roundg (D.length - (j + 1))
                    case measure => omega
                    case rel => exact ⟨j + 1, A4, c4, out4, av, hltj, Nat.le_refl _, rfl, rfl, by go_num, by omega, HC.out.2.alloc _, SinceOf.alloc ⟨z4, rfl⟩ _, HC.out.1⟩
                · rw [if_neg (fun h => h1' h.1)] at hcut
                  have HC := Lib.hid (And.intro hcut hown4)
                  have h1d : decide (av < d1) = false := decide_eq_false h1'
                  clear hr hs hst hcut hown4 h1'
                  go_wp2_with fail
                  go_roundg (D.length - (j + 1))
                  case measure => omega
                  case rel => exact ⟨j + 1, A4, c4, out4, av, hltj, Nat.le_refl _, rfl, rfl, by go_num, by omega, HC.out.2.alloc _, SinceOf.alloc ⟨z4, rfl⟩ _, HC.out.1⟩
              · have hjl : j = D.length := by omega
                rw [hjl, List.drop_length, cutI_nil] at hcut
                have HC := Lib.hid (And.intro hcut hown4)
                clear hcut hown4 hjl
                go_wp2_with fail
                refine (add_any x2.wd.heap.size A4 c4 out4 av (imin b (bg + s1)) _ HC.out.2 (by have := z4.size; omega) (by omega)).mono ?_
                rintro e w5 ⟨A5, c5, rfl, hown5, hgr5, -⟩
                have hsi5 : SinceOf x2.wd w5 := (SinceOf.grown ⟨z4, rfl⟩ hgr5 (fun k hk => (HC.out.2.below k hk).1))
                rw [HC.out.1] at hown5 ⊢
                have hT2 : T2.length ≤ out4.length + 1 := by rw [← HC.out.1]; exact addI_length _ _ _
                have H5 := Lib.hid (And.intro hown5 hsi5)
                clear hown5 hsi5 hgr5
                go_wp2_with fail
                go_roundg (S.length - (k + 1))
                case measure => omega
                case rel => exact ⟨k + 1, A5, c5, T2, hltk, Nat.le_refl _, rfl, by go_num, by omega, H5.out.1, H5.out.2, HR.out.1⟩
          · have hkl : k = S.length := by omega
            rw [hkl, List.drop_length] at hro
            have hro : out3 = T := hro
            subst hro
            have H3 := Lib.hid hown3
            clear hown3
            go_wp2_with fail
            go_roundg (b - (bg + P)).toNat
            case measure => omega
            case rel =>
              refine ⟨A3, c3, out3, bg + P, q + 1, rfl, by go_num, ?_, by omega, by omega, Nat.le_refl _, by omega, H3.out, ⟨z3, rfl⟩, HT.out.1⟩
              rw [HT.out.2.2.1, Int.mul_add, Int.mul_one]
      · have hfin : max a (min b bg) = b := by omega
        rw [hfin] at hruns
        have HX := Lib.hid (And.intro hruns hown)
        clear hruns hown
        go_wp2_with fail
        go_returns
        exact ⟨by (repeat (first | (with_reducible exact SinceOf.refl _) | (with_reducible assumption) | (with_reducible refine SinceOf.alloc ?_ _) | (with_reducible refine SinceOf.drew ?_) | (with_reducible refine SinceOf.drewN ?_ _) | (with_reducible refine SinceOf.later ?_ _) | (with_reducible refine SinceOf.further ?_ _) | (with_reducible refine SinceOf.setCell ?_ (by first | exact Nat.le_refl _ | (simp; done) | omega | (simp; omega)) _))), 0, A2, out.length, c2, out, rfl, rfl, HX.out.2.isRow encV_len, by omega, .inr ⟨HG.out.1, HG.out.2.1, rfl, HX.out.1⟩⟩
  · have hd : errI (validB P S D) (checkB a b) = 1 ∨ errI (validB P S D) (checkB a b) = 2 := by
      cases hv : validB P S D <;> cases hc : checkB a b <;> simp [hv, hc, errI] at hg ⊢
    have hg' : (validB P S D && checkB a b) = false := by simpa using hg
    have HF : ∀ w', SinceOf w w' → SpansOut w P S D a b (.returned (.tuple #[.slice none 0 0, .int .i64 (errI (validB P S D) (checkB a b))])) w' :=
      fun w' hw => ⟨hw, _, none, 0, 0, [], rfl, rfl, IsRow.nil _ _ _, by simp, .inl ⟨hg', rfl, rfl⟩⟩
    have HF := Lib.hid HF
    clear h hg hg'
    generalize errI (validB P S D) (checkB a b) = q at *
    rcases hd with rfl | rfl
    all_goals
      go_enter Try.func53, Try.ntmps53
      go_wp2_with fail
      refine (K _ (by (repeat (first | (with_reducible exact SinceOf.refl _) | (with_reducible assumption) | (with_reducible refine SinceOf.alloc ?_ _) | (with_reducible refine SinceOf.drew ?_) | (with_reducible refine SinceOf.drewN ?_ _) | (with_reducible refine SinceOf.later ?_ _) | (with_reducible refine SinceOf.further ?_ _) | (with_reducible refine SinceOf.setCell ?_ (by first | exact Nat.le_refl _ | (simp; done) | omega | (simp; omega)) _))))).calls.mono ?_
      rintro e _ ⟨rfl, x1, rfl⟩
      go_wp2_with fail
      go_returns
      exact HF.out _ (by (repeat (first | (with_reducible exact SinceOf.refl _) | (with_reducible assumption) | (with_reducible refine SinceOf.alloc ?_ _) | (with_reducible refine SinceOf.drew ?_) | (with_reducible refine SinceOf.drewN ?_ _) | (with_reducible refine SinceOf.later ?_ _) | (with_reducible refine SinceOf.further ?_ _) | (with_reducible refine SinceOf.setCell ?_ (by first | exact Nat.le_refl _ | (simp; done) | omega | (simp; omega)) _))))
end
end Go.Proofs.Ytbceogoeoojdbaa
