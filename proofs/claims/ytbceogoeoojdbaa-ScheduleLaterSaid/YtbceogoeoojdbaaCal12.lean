/- The reference's Spans. -/
import Derived.Test.YtbceogoeoojdbaaCal11
namespace Go.Proofs.Ytbceogoeoojdbaa
open Go.RowKit Go.Sort
set_option linter.unusedVariables false
attribute [local go_sem ↓] Go.wp_at_zero Go.wp_at_succ
section
variable {P : Int} {A B : Option Addr} {n c m d : Nat} {S D : List (Int × Int)} {w : World}
set_option maxRecDepth 100000 in
set_option maxHeartbeats 8000000 in
theorem refSpans_any (a b : Int) (h : IsCal w P A n c B m d S D) : Calls Try.prog 54 #[CalV P A n c B m d, .int .i64 a, .int .i64 b] w (SpansOut w P S D a b) := by
  have K := fun W hW => refCheck_any (w := W) a b 0 (h.of hW)
  rw [show timeB 0 = true from rfl, Bool.and_true] at K
  by_cases hg : (validB P S D && checkB a b) = true
  · rw [Bool.and_eq_true] at hg
    obtain ⟨hv, hc⟩ := hg
    rw [hv, hc] at K
    have g := validB_iff.1 hv
    obtain ⟨h0, h1, h2⟩ := checkB_iff.1 hc
    have W := h.refOpen g
    have HG := Lib.hid (And.intro g hc)
    obtain ⟨i0, hi, hz0, hz1, hz2⟩ := info_parts infoIv
    have HI := Lib.hid (And.intro hi (And.intro hz0 (And.intro hz1 hz2)))
    clear h hv hc g hi hz0 hz1 hz2
    go_enter Try.func54, Try.ntmps54
    go_wp2_with fail
    refine (K _ (by (repeat (first | (with_reducible exact SinceOf.refl _) | (with_reducible assumption) | (with_reducible refine SinceOf.alloc ?_ _) | (with_reducible refine SinceOf.drew ?_) | (with_reducible refine SinceOf.drewN ?_ _) | (with_reducible refine SinceOf.later ?_ _) | (with_reducible refine SinceOf.further ?_ _) | (with_reducible refine SinceOf.setCell ?_ (by first | exact Nat.le_refl _ | (simp; done) | omega | (simp; omega)) _))))).calls.mono ?_
    rintro e _ ⟨rfl, x1, rfl⟩
    simp only [errI, if_true]
    clear K
    go_wp2_with fail
    go_loopg [9, 10] (b - a).toNat (fun gas s9 s10 wr => ∃ (A2 : Option Addr) (c2 : Nat) (out : List (Int × Int)) (t : Int), s9 = .slice A2 out.length c2 ∧ s10 = .int .i64 t ∧ a ≤ t ∧ t ≤ b ∧ (b - t).toNat ≤ gas ∧ (out.length : Int) ≤ t - a ∧
      OwnIvs x1.wd.heap.size wr A2 c2 out ∧ SinceOf x1.wd wr ∧ Runs (openI P S D) a b out t)
    case atStart => exact ⟨none, 0, [], a, rfl, rfl, Int.le_refl _, h1, Nat.le_refl _, by simp, Owns.nil _ _ _ _ _, SinceOf.refl _, Runs.nil _ _ _⟩
    case round =>
      obtain ⟨A2, c2, out, t, rfl, rfl, ht0, ht1, hgas, hol, hown, ⟨z, rfl⟩, hruns⟩ := hrel
      by_cases hlt : t < b
      · have C := W z.wd (by (repeat (first | (with_reducible exact SinceOf.refl _) | (with_reducible assumption) | (with_reducible refine SinceOf.alloc ?_ _) | (with_reducible refine SinceOf.drew ?_) | (with_reducible refine SinceOf.drewN ?_ _) | (with_reducible refine SinceOf.later ?_ _) | (with_reducible refine SinceOf.further ?_ _) | (with_reducible refine SinceOf.setCell ?_ (by first | exact Nat.le_refl _ | (simp; done) | omega | (simp; omega)) _)))) t (by omega) (by omega)
        cases ho : openI P S D t
        · have hr' := hruns.skip (y := t + 1) (by omega) (fun u _ g1 g2 => by rw [show u = t from by omega]; exact ho)
          have HR := Lib.hid (And.intro hr' hown)
          rw [ho] at C
          clear ho hruns hown hr'
          go_wp2_with fail
          refine C.calls.mono ?_
          rintro e _ ⟨rfl, x2, rfl⟩
          go_wp2_with fail
          go_roundg (b - (t + 1)).toNat
          case measure => omega
          case rel => exact ⟨A2, c2, out, t + 1, rfl, rfl, by omega, by omega, Nat.le_refl _, by omega, HR.out.2.of (LaterOf.since ⟨x2, rfl⟩), SinceOf.later ⟨z, rfl⟩ x2, HR.out.1⟩
        · have hr' := hruns.add (a := t) (b := t + 1) (by omega) (Int.le_refl _) (by omega) (by omega) (fun u _ g1 g2 => by omega) (fun u g1 g2 => by rw [show u = t from by omega]; exact ho)
          have HR := Lib.hid (And.intro hr' hown)
          rw [ho] at C
          clear ho hruns hr'
          by_cases hl0 : out.length = 0
          · obtain rfl : out = [] := List.eq_nil_of_length_eq_zero hl0
            have e : addI [] t (t + 1) = [] ++ [(t, t + 1)] := by unfold addI; rw [if_neg (by omega)]; rfl
            have HE := Lib.hid e
            clear e hl0 hown
            go_wp2_with fail
            refine C.calls.mono ?_
            rintro e _ ⟨rfl, x2, rfl⟩
            go_wp2_with (at_builtin; refine wpList_append_row rfl (.tmp 50) (.tmp 55) 56 rfl encV_len (by omega) encV_one i0 _ 16 Try.underlying56 HI.out.1 HI.out.2.1 HI.out.2.2.1 HI.out.2.2.2 rfl (l := []) (A := A2) (c := c2) (base := x1.wd.heap.size) rfl ((HR.out.2.of (LaterOf.since ⟨x2, rfl⟩)).alloc _) (m := [(t, t + 1)]) rfl (isRow_at _ _ t (t + 1) _ (by first | rfl | simp)) (by unfold maxLen; simp) (by simp) (by have := x2.size; have := z.size; simp only [World.size_alloc]; omega) ?_; intro A3 c3 w3 hown3 hgr3 hbl3)
            go_roundg (b - (t + 1)).toNat
            case measure => omega
            case rel =>
              refine ⟨A3, c3, addI [] t (t + 1), t + 1, by rw [HE.out]; rfl, rfl, by omega, by omega, Nat.le_refl _, by rw [HE.out]; simp; omega, by rw [HE.out]; exact hown3, ?_, HR.out.1⟩
              exact SinceOf.grown (SinceOf.alloc (SinceOf.later ⟨z, rfl⟩ x2) _) hgr3 (fun k hk => (HR.out.2.below k hk).1)
          · have hn0 : 0 < out.length := by omega
            obtain ⟨g, rfl, hgb, hg⟩ := hown.at0 hn0
            have hlv := (hown.live0 encV_len).2
            have hO := hlv.row.there
            have m1 := hlv.row.v1 (out.length - 1) (by omega)
            have f1 := hlv.free ((out.length - 1) * 2 + 1) (by omega)
            obtain ⟨⟨e0, e1⟩, he⟩ : ∃ q, q = out[out.length - 1] := ⟨_, rfl⟩
            rw [← he] at m1
            simp only [Nat.zero_add] at m1 f1
            have hgD : out.getD (out.length - 1) (0, 0) = (e0, e1) := by rw [List.getD_eq_getElem?_getD, List.getElem?_eq_getElem (by omega), he]; rfl
            by_cases hea : e1 = t
            · subst hea
              have e : addI out e1 (e1 + 1) = out.set (out.length - 1) (e0, e1 + 1) := by unfold addI; rw [if_neg (by omega), hgD, if_pos ⟨hn0, rfl⟩]
              have HE := Lib.hid (And.intro e he)
              clear e he hgD hlv hl0 hown
              go_wp2_with fail
              refine C.calls.mono ?_
              rintro e _ ⟨rfl, x2, rfl⟩
              have m2 : x2.wd.cell? ⟨g, (out.length - 1) * 2 + 1, none⟩ = some (.int .i64 e1) := by simp [go_sem, m1]
              have f2 : x2.wd.frozen? ⟨g, (out.length - 1) * 2 + 1, none⟩ = false := by simp [go_sem, f1]
              go_wp2_with fail
              obtain ⟨o1, o2⟩ := Owns.set1 (HR.out.2.of (LaterOf.since ⟨x2, rfl⟩)) (out.length - 1) (by omega) (e1 + 1)
              rw [← HE.out.2] at o1
              have H3 := Lib.hid (And.intro o1 o2)
              clear o1 o2
              go_roundg (b - (e1 + 1)).toNat
              case measure => omega
              case rel =>
                refine ⟨some ⟨g, 0, none⟩, c2, addI out e1 (e1 + 1), e1 + 1, by rw [HE.out.1, List.length_set], rfl, by omega, by omega, Nat.le_refl _, by rw [HE.out.1, List.length_set]; omega, by rw [HE.out.1]; exact H3.out.1, ?_, HR.out.1⟩
                exact SinceOf.grown (SinceOf.later ⟨z, rfl⟩ x2) H3.out.2 (fun k hk => by injection hk with hk; omega)
            · have e : addI out t (t + 1) = out ++ [(t, t + 1)] := by unfold addI; rw [if_neg (by omega), hgD, if_neg (fun h => hea h.2)]
              have heb : (e1 == t) = false := by rw [beq_eq_false_iff_ne]; exact hea
              have HE := Lib.hid e
              clear e he hgD hlv hl0 hea hown
              go_wp2_with fail
              refine C.calls.mono ?_
              rintro e _ ⟨rfl, x2, rfl⟩
              have m2 : x2.wd.cell? ⟨g, (out.length - 1) * 2 + 1, none⟩ = some (.int .i64 e1) := by simp [go_sem, m1]
              go_wp2_with (at_builtin; refine wpList_append_row rfl (.tmp 50) (.tmp 55) 56 rfl encV_len (by omega) encV_one i0 _ 16 Try.underlying56 HI.out.1 HI.out.2.1 HI.out.2.2.1 HI.out.2.2.2 rfl (l := out) (A := some ⟨g, 0, none⟩) (c := c2) (base := x1.wd.heap.size) rfl ((HR.out.2.of (LaterOf.since ⟨x2, rfl⟩)).alloc _) (m := [(t, t + 1)]) rfl (isRow_at _ _ t (t + 1) _ (by first | rfl | simp)) (by unfold maxLen; simp; omega) (by simp; omega) (by have := x2.size; have := z.size; simp only [World.size_alloc]; omega) ?_; intro A3 c3 w3 hown3 hgr3 hbl3)
              go_roundg (b - (t + 1)).toNat
              case measure => omega
              case rel =>
                refine ⟨A3, c3, addI out t (t + 1), t + 1, by rw [HE.out, List.length_append]; rfl, rfl, by omega, by omega, Nat.le_refl _, by rw [HE.out, List.length_append]; simp; omega, by rw [HE.out]; exact hown3, ?_, HR.out.1⟩
                exact SinceOf.grown (SinceOf.alloc (SinceOf.later ⟨z, rfl⟩ x2) _) hgr3 (fun k hk => (HR.out.2.below k hk).1)
      · have htb : t = b := by omega
        subst htb
        have HX := Lib.hid (And.intro hruns hown)
        clear hruns hown
        go_wp2_with fail
        go_returns
        exact ⟨by (repeat (first | (with_reducible exact SinceOf.refl _) | (with_reducible assumption) | (with_reducible refine SinceOf.alloc ?_ _) | (with_reducible refine SinceOf.drew ?_) | (with_reducible refine SinceOf.drewN ?_ _) | (with_reducible refine SinceOf.later ?_ _) | (with_reducible refine SinceOf.further ?_ _) | (with_reducible refine SinceOf.setCell ?_ (by first | exact Nat.le_refl _ | (simp; done) | omega | (simp; omega)) _))), 0, A2, out.length, c2, out, rfl, rfl, HX.out.2.isRow encV_len, by omega, .inr ⟨HG.out.1, HG.out.2, rfl, HX.out.1⟩⟩
  · have hd : errI (validB P S D) (checkB a b) = 1 ∨ errI (validB P S D) (checkB a b) = 2 := by
      cases hv : validB P S D <;> cases hc : checkB a b <;> simp [hv, hc, errI] at hg ⊢
    have hg' : (validB P S D && checkB a b) = false := by simpa using hg
    have HF : ∀ w', SinceOf w w' → SpansOut w P S D a b (.returned (.tuple #[.slice none 0 0, .int .i64 (errI (validB P S D) (checkB a b))])) w' :=
      fun w' hw => ⟨hw, _, none, 0, 0, [], rfl, rfl, IsRow.nil _ _ _, by simp, .inl ⟨hg', rfl, rfl⟩⟩
    have HF := Lib.hid HF
    clear h hg hg'
    generalize errI (validB P S D) (checkB a b) = q at *
    rcases hd with rfl | rfl
    all_goals
      go_enter Try.func54, Try.ntmps54
      go_wp2_with fail
      refine (K _ (by (repeat (first | (with_reducible exact SinceOf.refl _) | (with_reducible assumption) | (with_reducible refine SinceOf.alloc ?_ _) | (with_reducible refine SinceOf.drew ?_) | (with_reducible refine SinceOf.drewN ?_ _) | (with_reducible refine SinceOf.later ?_ _) | (with_reducible refine SinceOf.further ?_ _) | (with_reducible refine SinceOf.setCell ?_ (by first | exact Nat.le_refl _ | (simp; done) | omega | (simp; omega)) _))))).calls.mono ?_
      rintro e _ ⟨rfl, x1, rfl⟩
      go_wp2_with fail
      go_returns
      exact HF.out _ (by (repeat (first | (with_reducible exact SinceOf.refl _) | (with_reducible assumption) | (with_reducible refine SinceOf.alloc ?_ _) | (with_reducible refine SinceOf.drew ?_) | (with_reducible refine SinceOf.drewN ?_ _) | (with_reducible refine SinceOf.later ?_ _) | (with_reducible refine SinceOf.further ?_ _) | (with_reducible refine SinceOf.setCell ?_ (by first | exact Nat.le_refl _ | (simp; done) | omega | (simp; omega)) _))))
end
theorem SpansR.unique {P : Int} {S D : List (Int × Int)} {a b e e' : Int} {L L' : List (Int × Int)} (h : SpansR P S D a b e L) (k : SpansR P S D a b e' L') : e = e' ∧ L = L' := by
  rcases h with ⟨h1, h2, h3⟩ | ⟨h1, h2, h3, h4⟩ <;> rcases k with ⟨k1, k2, k3⟩ | ⟨k1, k2, k3, k4⟩
  · exact ⟨by rw [h2, k2], by rw [h3, k3]⟩
  · rw [validB_iff.2 k1, k2] at h1; cases h1
  · rw [validB_iff.2 h1, h2] at k1; cases k1
  · exact ⟨by rw [h3, k3], Runs.unique h4 k4 rfl⟩
end Go.Proofs.Ytbceogoeoojdbaa
